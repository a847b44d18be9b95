/- Values that have been taken out of the slots, while an operation runs. -/
import Derived.Test.YtomimhedehecdaaDoorViFrame3
namespace Go.Vi

abbrev Hv := V × Value × List Nat

structure Held (c : Ctx) (g : G) (st : St) (a : Act) (w : World) (hs : List Hv) : Prop where
  inv : FInv c g st a w
  rel : ∀ e ∈ hs, RelT w g st a e.1 e.2.1 e.2.2
  nd : (hs.flatMap (·.2.2)).Nodup
  fr : ∀ b ∈ hs.flatMap (·.2.2), ((c.B ≤ b ∨ b ∈ c.Mv) ∧ b < w.heap.size) ∧ (∀ t, b ∉ g.O t) ∧ ∀ d, b ∉ g.OB d

variable {c : Ctx} {g : G} {st : St} {a : Act} {w : World} {hs : List Hv}

theorem Held.nil (h : FInv c g st a w) : Held c g st a w [] := ⟨h, by simp, by simp, by simp⟩

/-- Something that owns nothing. -/
theorem Held.push0 (h : Held c g st a w hs) {v : V} {r : Value} (hr : RelT w g st a v r []) : Held c g st a w (hs ++ [(v, r, [])]) :=
  ⟨h.inv, fun e he => by
    rcases List.mem_append.1 he with h1 | h1
    · exact h.rel e h1
    · simp at h1; subst h1; exact hr, by simpa using h.nd, by simpa using h.fr⟩

/-- What a slot holds is handed on. -/
theorem Held.take (h : Held c g st a w hs) (n : Nat) (own : Own) :
    ∃ g' o', Held c g' { st with tm := put st.tm n .undef } a w (hs ++ [(low own (st.at n), a.tmps.getD n Go.undef, o')]) ∧ (∀ b k, g.S b k → g'.S b k) ∧ g'.β = g.β ∧ g'.OB = g.OB := by
  have hat := h.inv.at n
  have hemp := h.inv.empty n
  by_cases hv : (∀ d f, st.at n ≠ .loc d f) ∧ (∀ t i f, st.at n ≠ .el t i f) ∧ ∀ t, st.at n ≠ .rf t
  · obtain ⟨S', o', h1, h2, h3, h4, h5⟩ := (hat.rel hv).low own
    have hm : ∀ b k, S' b k → g.S b k ∨ (b ∈ g.O n ∧ b < w.heap.size) := h2
    have hW := hemp.world w S' (Keep.refl _ _) h1
      (fun t b hb => ⟨rfl, fun k hs => by
        rcases hm b k hs with h6 | h6
        · exact h6
        · simp only at hb
          by_cases ht : t = n
          · rw [if_pos ht] at hb; cases hb
          · rw [if_neg ht] at hb; exact absurd hb (h.inv.dOO n t (fun e => ht e.symm) b h6.1)⟩)
      (fun d b hb => ⟨rfl, fun k hs => by
        rcases hm b k hs with h6 | h6
        · exact h6
        · exact absurd hb (h.inv.dOB n d b h6.1)⟩)
      (Upd.refl _ _ _)
      (fun b k hs => by
        rcases hm b k hs with h6 | h6
        · exact .inl h6
        · exact .inr (h.inv.fO n b h6.1).1)
      (fun b k hs => by
        rcases hm b k hs with h6 | h6
        · exact h.inv.lt b k h6
        · exact h6.2)
    refine ⟨_, o', ⟨hW, ?_, ?_, ?_⟩, h1, rfl, rfl⟩
    · intro e he
      rcases List.mem_append.1 he with h6 | h6
      · refine (h.rel e h6).frame (fun _ _ _ => rfl) (fun s hs hx => ?_) fun hr => hr.keep (Keep.refl _ _) h1 (fun _ _ => rfl) ?_
        · have hsn : s ≠ n := by
            rintro rfl
            simp [St.at, get_put, isX] at hx
          have he : ({ st with tm := put st.tm n .undef } : St).at s = st.at s := by simp [St.at, get_put, hsn]
          rw [he] at hx ⊢
          exact ⟨.self hx, rfl⟩
        · intro b hb k hs
          rcases hm b k hs with h7 | h7
          · exact h7
          · exact absurd h7.1 ((h.fr b (List.mem_flatMap.2 ⟨e, h6, hb⟩)).2.1 n)
      · simp only [List.mem_singleton] at h6
        subst h6
        exact RelT.of_rel h5
    · simp only [List.flatMap_append, List.flatMap_cons, List.flatMap_nil, List.append_nil]
      refine List.nodup_append.2 ⟨h.nd, h4 (h.inv.nO n), ?_⟩
      intro b hb b' hb' e
      subst e
      exact (h.fr b hb).2.1 n (h3 b hb')
    · intro b hb
      simp only [List.flatMap_append, List.flatMap_cons, List.flatMap_nil, List.append_nil] at hb
      rcases List.mem_append.1 hb with h6 | h6
      · refine ⟨(h.fr b h6).1, fun t => ?_, (h.fr b h6).2.2⟩
        simp only
        by_cases ht : t = n
        · rw [if_pos ht]; simp
        · rw [if_neg ht]; exact (h.fr b h6).2.1 t
      · refine ⟨h.inv.fO n b (h3 b h6), fun t => ?_, fun d => h.inv.dOB n d b (h3 b h6)⟩
        simp only
        by_cases ht : t = n
        · rw [if_pos ht]; simp
        · rw [if_neg ht]; exact h.inv.dOO n t (fun e => ht e.symm) b (h3 b h6)
  · -- a pointer into a box or a slice, a name
    have hlow : low own (st.at n) = st.at n := by
      generalize st.at n = v at hv
      cases v <;> first | (cases own <;> rfl) | (exfalso; apply hv; simp)
    have ho : g.O n = [] := by
      generalize st.at n = v at hv hat
      cases v <;> first | exact hat.1 | (exfalso; apply hv; simp)
    refine ⟨_, [], ⟨hemp, ?_, by simpa using h.nd, ?_⟩, fun _ _ h => h, rfl, rfl⟩
    · intro e he
      have fr : ∀ (v : V) (r : Value) (o : List Nat), RelT w g st a v r o → RelT w { g with O := fun t => if t = n then [] else g.O t } { st with tm := put st.tm n .undef } a v r o := by
        intro v r o hr
        refine hr.frame (fun _ _ _ => rfl) (fun s hs hx => ?_) fun hr => hr
        have hsn : s ≠ n := by
          rintro rfl
          simp [St.at, get_put, isX] at hx
        have he : ({ st with tm := put st.tm n .undef } : St).at s = st.at s := by simp [St.at, get_put, hsn]
        rw [he] at hx ⊢
        exact ⟨.self hx, rfl⟩
      rcases List.mem_append.1 he with h6 | h6
      · exact fr _ _ _ (h.rel e h6)
      · simp only [List.mem_singleton] at h6
        subst h6
        rw [hlow]
        rw [ho] at hat
        exact fr _ _ _ hat
    · intro b hb
      have hb' : b ∈ hs.flatMap (·.2.2) := by simpa using hb
      refine ⟨(h.fr b hb').1, fun t => ?_, (h.fr b hb').2.2⟩
      simp only
      by_cases ht : t = n
      · rw [if_pos ht]; simp
      · rw [if_neg ht]; exact (h.fr b hb').2.1 t

/-! ### operands -/
def peq : List V → List V → Bool
  | [], [] => true
  | .int k n :: l, .int k' n' :: r => k == k' && n == n' && peq l r
  | .bool b :: l, .bool b' :: r => b == b' && peq l r
  | _, _ => false

theorem peq_eq : ∀ {l r : List V}, peq l r = true → l = r
  | [], [], _ => rfl
  | [], _ :: _, h => by cases h
  | x :: l, [], h => by cases x <;> cases h
  | x :: l, y :: r, h => by
    cases x <;> cases y <;> simp only [peq, Bool.and_eq_true, beq_iff_eq, Bool.false_eq_true] at h
    · obtain ⟨rfl, h⟩ := h; rw [peq_eq h]
    · obtain ⟨⟨rfl, rfl⟩, h⟩ := h; rw [peq_eq h]

def constOK (gl : List (Nat × List V)) : V → Operand → Bool
  | .int k n, .const (.int k' n') => k == k' && n == n'
  | .bool b, .const (.bool b') => b == b'
  | .str s, .const (.string s') => decide (s = s')
  | .nili, .const .nilIface => true
  | .nilp, .const (.pointer none) => true
  | .nilf, .const .nilFunc => true
  | .sl _ _ [], .const (.slice _ 0 0) => true
  | .fn (.func f) [] [], .func f' => f == f'
  | .ptr cs 0, .global x => gl.any fun y => y.1 == x && peq cs y.2
  | .undef, _ => true
  | _, _ => false

theorem const_rel (h : FInv c g st a w) {v : V} {X : Operand} (hc : constOK c.gl v X = true) : Rel w g.S v (a.eval X) [] := by
  unfold constOK at hc
  split at hc
  · simp only [Bool.and_eq_true, beq_iff_eq] at hc; obtain ⟨rfl, rfl⟩ := hc; exact .int _ _
  · simp only [beq_iff_eq] at hc; subst hc; exact .bool _
  · simp only [decide_eq_true_eq] at hc; subst hc; exact .str _
  · exact .nili
  · exact .nilp
  · exact .nilf
  · exact .sl0 _ _ _
  · simp only [beq_iff_eq] at hc; subst hc; exact .fn _ [] [] #[] #[] rfl rfl (by simp) (by simp)
  · rename_i cs x
    simp only [List.any_eq_true, Bool.and_eq_true, beq_iff_eq] at hc
    obtain ⟨y, hy, rfl, hp⟩ := hc
    have e := peq_eq hp
    subst e
    exact (h.gl _ _ hy).keep0 h.keep h.sub
  · exact .undef _
  · cases hc

def opndOK (gl : List (Nat × List V)) : A → Operand → Bool
  | .t n, .tmp m => n == m
  | .m _ n, .tmp m => n == m
  | .c v, X => constOK gl v X
  | _, _ => false

def opndsOK (gl : List (Nat × List V)) : List A → List Operand → Bool
  | [], [] => true
  | x :: xs, X :: Xs => opndOK gl x X && opndsOK gl xs Xs
  | _, _ => false

/-- Does an operand read this slot? -/
def A.reads (n : Nat) : A → Bool
  | .t k | .m _ k => k == n
  | .c _ => false

/-- What is handed on is read once. -/
def once : List A → Bool
  | [] => true
  | .m _ n :: xs => xs.all (fun x => !x.reads n) && once xs
  | .t n :: xs => xs.all (fun | .m _ k => k != n | _ => true) && once xs
  | _ :: xs => once xs

theorem val_put (st : St) (n : Nat) (u : V) (x : A) (h : x.reads n = false) : ({ st with tm := put st.tm n u } : St).val x = st.val x := by
  cases x <;> simp_all [St.val, St.at, get_put, A.reads]

theorem Held.opnds : ∀ (xs : List A) (Xs : List Operand) (st : St) (g : G) (hs : List Hv), Held c g st a w hs → opndsOK c.gl xs Xs = true → once xs = true →
    ∃ g' os, Held c g' (st.gone xs) a w (hs ++ (xs.map st.val).zip ((Xs.map a.eval).zip os)) ∧ os.length = xs.length ∧ (∀ b k, g.S b k → g'.S b k) ∧ g'.β = g.β ∧ g'.OB = g.OB
  | [], [], st, g, hs, h, _, _ => ⟨g, [], by simpa [St.gone, gone] using h, rfl, fun _ _ h => h, rfl, rfl⟩
  | [], _ :: _, _, _, _, _, hok, _ => by cases hok
  | _ :: _, [], _, _, _, _, hok, _ => by cases hok
  | x :: xs, X :: Xs, st, g, hs, h, hok, ho => by
    simp only [opndsOK, Bool.and_eq_true] at hok
    cases x with
    | m own n =>
      cases X <;> simp only [opndOK, beq_iff_eq, Bool.false_eq_true, false_and] at hok
      obtain ⟨rfl, hok⟩ := hok
      simp only [once, Bool.and_eq_true, List.all_eq_true, Bool.not_eq_true'] at ho
      obtain ⟨g1, o1, h1, hS1, hβ1, hB1⟩ := h.take n own
      obtain ⟨g2, os, h2, hl, hS2, hβ2, hB2⟩ := Held.opnds xs Xs _ g1 _ h1 hok ho.2
      refine ⟨g2, o1 :: os, ?_, by simp [hl], fun b k hs => hS2 b k (hS1 b k hs), hβ2.trans hβ1, hB2.trans hB1⟩
      have e : xs.map ({ st with tm := put st.tm n .undef } : St).val = xs.map st.val := List.map_congr_left fun y hy => val_put st n _ y (ho.1 y hy)
      rw [e] at h2
      simpa [St.gone, gone, St.val, Act.eval] using h2
    | t n =>
      cases X <;> simp only [opndOK, beq_iff_eq, Bool.false_eq_true, false_and] at hok
      obtain ⟨rfl, hok⟩ := hok
      simp only [once, Bool.and_eq_true] at ho
      obtain ⟨g2, os, h2, hl, hS2, hβ2, hB2⟩ := Held.opnds xs Xs _ g _ (h.push0 (h.inv.copy n)) hok ho.2
      exact ⟨g2, [] :: os, by simpa [St.gone, gone, St.val, Act.eval] using h2, by simp [hl], hS2, hβ2, hB2⟩
    | c v =>
      obtain ⟨hc, hok⟩ := hok
      simp only [once] at ho
      obtain ⟨g2, os, h2, hl, hS2, hβ2, hB2⟩ := Held.opnds xs Xs _ g _ (h.push0 (.of_rel (const_rel h.inv hc))) hok ho
      exact ⟨g2, [] :: os, by simpa [St.gone, gone, St.val] using h2, by simp [hl], hS2, hβ2, hB2⟩

end Go.Vi
