/- Drawn regions. -/
import Derived.Test.YtomimhedehecdaaDoorViComm5
import Derived.Tactics
namespace Go.Vi
variable {c : Ctx} {g : G} {st st' st1 : St} {a : Act} {w : World} {hs : List Hv}

def opsOK (P : Program) (gl : List (Nat × List V)) (nt : Nat) (ops : Array Oper) : List Oper → List MO → Bool
  | [], [] => true
  | o :: os, m :: ms => moOK P gl nt ops o m && opsOK P gl nt ops os ms
  | _, _ => false

theorem ops_wp {ops : Array Oper} {call : FuncId → List V → Option V} {Q : Exit → Act → World → Prop} (hcall : ∀ f args r, call f args = some r → Good c.P c.gl f args r ∧ Entry c.P f) :
    ∀ (os : List Oper) (ms : List MO) (g : G) (st : St) (a : Act) (w : World), opsOK c.P c.gl c.nt ops os ms = true → FInv c g st a w → steps call ms st = some st1 → (∀ g a w, FInv c g st1 a w → Q .normal a w) → wpList c.P ops Q os a w
  | [], [], g, st, a, w, _, h, hv, hQ => by
    simp only [steps, Option.some.injEq] at hv
    subst hv
    exact hQ g a w h
  | [], _ :: _, _, _, _, _, hok, _, _, _ => by cases hok
  | _ :: _, [], _, _, _, _, hok, _, _, _ => by cases hok
  | o :: os, m :: ms, g, st, a, w, hok, h, hv, hQ => by
    simp only [opsOK, Bool.and_eq_true] at hok
    simp only [steps, Option.bind_eq_some_iff] at hv
    obtain ⟨s, hs, hv⟩ := hv
    have := step_goes (K := wpList c.P ops Q os) (Q := Q) hok.1 hcall h hs fun g a w h' => ops_wp hcall os ms g s a w hok.2 h' hv hQ
    unfold Oper.goes at this
    unfold wpList
    split
    · rename_i hw; rw [if_pos hw] at this; exact .inl this
    · rename_i hw; rw [if_neg hw] at this; exact this


/-! ### what must come before -/
def edgesOf (o : Oper) : List Nat := (o.after.toList.filter (Region.binds .any)).map (·.on)

def uniq : List Nat → List Nat
  | [] => []
  | x :: xs => if (uniq xs).contains x then uniq xs else x :: uniq xs

theorem mem_uniq {x : Nat} : ∀ {l : List Nat}, x ∈ uniq l → x ∈ l
  | [], h => h
  | y :: l, h => by
    unfold uniq at h
    split at h
    · exact List.mem_cons_of_mem _ (mem_uniq h)
    · rcases List.mem_cons.1 h with h | h
      · exact h ▸ List.mem_cons_self
      · exact List.mem_cons_of_mem _ (mem_uniq h)

def closGo : List (List Nat) → List Oper → List (List Nat)
  | acc, [] => acc
  | acc, o :: os => closGo (acc ++ [uniq ((edgesOf o).flatMap fun e => e :: acc.getD e [])]) os

/-- All that is there must be there in full. -/
def Closed (ops : List Oper) (L : Nat → Prop) : Prop := ∀ i o, ops[i]? = some o → L i → ∀ e ∈ edgesOf o, L e

theorem clos_ok {ops : List Oper} {L : Nat → Prop} (hL : Closed ops L) : ∀ (os : List Oper) (acc : List (List Nat)), (∀ k, os[k]? = ops[acc.length + k]?) →
    (∀ i o, i < acc.length → ops[i]? = some o → (∀ e ∈ edgesOf o, L e) → ∀ p ∈ acc.getD i [], L p) → ∀ i o, ops[i]? = some o → (∀ e ∈ edgesOf o, L e) → ∀ p ∈ (closGo acc os).getD i [], L p
  | [], acc, hk, hacc, i, o, hi, he, p, hp => by
    by_cases hlt : i < acc.length
    · exact hacc i o hlt hi he p hp
    · exfalso
      have := hk (i - acc.length)
      rw [show acc.length + (i - acc.length) = i by omega, hi] at this
      simp at this
  | o' :: os, acc, hk, hacc, i, o, hi, he, p, hp => by
    refine clos_ok hL os (acc ++ [uniq ((edgesOf o').flatMap fun e => e :: acc.getD e [])]) (fun k => ?_) (fun j oj hj hoj hej q hq => ?_) i o hi he p hp
    · have := hk (k + 1)
      simp only [List.getElem?_cons_succ] at this
      rw [this, List.length_append]
      congr 1
      simp; omega
    · rw [List.getD_eq_getElem?_getD] at hq
      by_cases hlt : j < acc.length
      · rw [List.getElem?_append_left hlt, ← List.getD_eq_getElem?_getD] at hq
        exact hacc j oj hlt hoj hej q hq
      · have hj' : j = acc.length := by simp at hj; omega
        subst hj'
        have ho' : ops[acc.length]? = some o' := by have := hk 0; simpa using this.symm
        rw [hoj] at ho'
        cases ho'
        simp only [List.getElem?_append_right (Nat.le_refl _), Nat.sub_self, List.getElem?_cons_zero, Option.getD_some] at hq
        obtain ⟨e, h1, h2⟩ := List.mem_flatMap.1 (mem_uniq hq)
        have hLe := hej e h1
        rcases List.mem_cons.1 h2 with h3 | h3
        · exact h3 ▸ hLe
        · by_cases hea : e < acc.length
          · cases hoe : ops[e]? with
            | none =>
              exfalso
              have h4 := List.getElem?_eq_none_iff.1 hoe
              have h5 := (List.getElem?_eq_some_iff.1 hoj).1
              omega
            | some oe => exact hacc e oe hea hoe (hL e oe hoe hLe) q h3
          · rw [List.getD_eq_getElem?_getD, List.getElem?_eq_none (by omega)] at h3
            cases h3

def nodupB : List Nat → Bool
  | [] => true
  | x :: xs => !xs.contains x && nodupB xs
theorem nodupB_iff : ∀ {l : List Nat}, nodupB l = true → l.Nodup
  | [], _ => List.nodup_nil
  | x :: xs, h => by
    simp only [nodupB, Bool.and_eq_true, Bool.not_eq_true'] at h
    exact List.nodup_cons.2 ⟨by simpa using h.1, nodupB_iff h.2⟩

/-- May the order be left free? -/
def drawOK (ops : Array Oper) (ms : List MO) : Bool :=
  let cl := closGo [] ops.toList
  nodupB (ms.filterMap (·.dst)) && ms.length == ops.size && (List.range ops.size).all fun i => match ops[i]?, ms[i]? with
    | some o, some m => (edgesOf o).all (fun e => decide (e < i)) && match foot m with
      | some F => (List.range i).all fun p => (cl.getD i []).contains p || match (ms[p]?).bind foot with
        | some F' => indep F' F
        | none => false
      | none => false
    | _, _ => false

theorem opsOK_at {P : Program} {gl : List (Nat × List V)} {nt : Nat} {ops : Array Oper} : ∀ {os : List Oper} {ms : List MO}, opsOK P gl nt ops os ms = true → ∀ (i : Nat) (o : Oper) (m : MO), os[i]? = some o → ms[i]? = some m → moOK P gl nt ops o m = true
  | [], [], _, i, o, m, h, _ => by simp at h
  | [], _ :: _, hok, _, _, _, _, _ => by cases hok
  | _ :: _, [], hok, _, _, _, _, _ => by cases hok
  | o' :: os, m' :: ms, hok, i, o, m, h1, h2 => by
    simp only [opsOK, Bool.and_eq_true] at hok
    cases i with
    | zero => simp at h1 h2; subst h1 h2; exact hok.1
    | succ i => exact opsOK_at hok.2 i o m (by simpa using h1) (by simpa using h2)

def left (n : Nat) (listed : Array Bool) : List Nat := (List.range n).filter fun i => !listed.getD i true

theorem getD_set (listed : Array Bool) (i j : Nat) (d : Bool) (hi : i < listed.size) : (listed.setIfInBounds i true).getD j d = if j = i then true else listed.getD j d := by
  simp only [Array.getD_eq_getD_getElem?]
  by_cases h : j = i
  · subst h; simp [hi]
  · rw [Array.getElem?_setIfInBounds_ne (fun e => h e.symm), if_neg h]

theorem left_split {n i : Nat} {listed : Array Bool} (hi : i < n) (hs : listed.size = n) (hl : listed.getD i true = false) : ∃ pre post, left n listed = pre ++ i :: post ∧ left n (listed.setIfInBounds i true) = pre ++ post ∧ ∀ p ∈ pre, p < i ∧ listed.getD p true = false := by
  have hr : List.range n = List.range i ++ i :: List.range' (i + 1) (n - i - 1) := by
    rw [List.range_eq_range', List.range_eq_range', show n = i + (1 + (n - i - 1)) by omega, ← List.range'_append_1, ← List.range'_append_1]
    simp
  refine ⟨(List.range i).filter fun i => !listed.getD i true, (List.range' (i + 1) (n - i - 1)).filter fun i => !listed.getD i true, ?_, ?_, fun p hp => ?_⟩
  · unfold left
    rw [hr, List.filter_append, List.filter_cons, if_pos (by rw [hl]; rfl)]
  · unfold left
    rw [hr, List.filter_append, List.filter_cons, if_neg (by rw [getD_set _ _ _ _ (by omega), if_pos rfl]; simp)]
    congr 1
    · refine List.filter_congr fun x hx => ?_
      rw [getD_set _ _ _ _ (by omega), if_neg]
      have := List.mem_range.1 hx; omega
    · refine List.filter_congr fun x hx => ?_
      rw [getD_set _ _ _ _ (by omega), if_neg]
      have := (List.mem_range'_1.1 hx).1; omega
  · simp only [List.mem_filter, List.mem_range, Bool.not_eq_true'] at hp
    exact hp

def rem (ms : List MO) (n : Nat) (listed : Array Bool) : List MO := (left n listed).filterMap (ms[·]?)

theorem rem_nil {ms : List MO} {n : Nat} {listed : Array Bool} (h : ∀ i, i < n → listed.getD i true = true) : rem ms n listed = [] := by
  have : left n listed = [] := by
    unfold left
    refine List.filter_eq_nil_iff.2 fun i hi => ?_
    rw [h i (List.mem_range.1 hi)]; simp
  unfold rem
  rw [this]; rfl

theorem any_wp {ops : Array Oper} {ms : List MO} {call : FuncId → List V → Option V} {Q : Exit → Act → World → Prop} (hcall : ∀ f args r, call f args = some r → Good c.P c.gl f args r ∧ Entry c.P f)
    (hops : opsOK c.P c.gl c.nt ops ops.toList ms = true) (hdraw : drawOK ops ms = true) (hQ : ∀ g a w, FInv c g st1 a w → Q .normal a w) :
    ∀ (fuel : Nat) (listed : Array Bool) (g : G) (st : St) (a : Act) (w : World), listed.size = ops.size → (left ops.size listed).length ≤ fuel → Closed ops.toList (fun i => listed.getD i false = true) →
      steps call (rem ms ops.size listed) st = some st1 → FInv c g st a w → incr st.tm = true → (∀ p ∈ rem ms ops.size listed, ∀ d, p.dst = some d → data (st.at d) = true) → ((rem ms ops.size listed).filterMap (·.dst)).Nodup → wpAny c.P .any ops Q fuel listed a w := by
  simp only [drawOK, Bool.and_eq_true, beq_iff_eq, List.all_eq_true, List.mem_range] at hdraw
  obtain ⟨⟨-, hlen⟩, hall⟩ := hdraw
  -- each operation by itself
  have hat : ∀ i, i < ops.size → ∃ o m F, ops[i]? = some o ∧ ms[i]? = some m ∧ foot m = some F ∧ (∀ e ∈ edgesOf o, e < i) ∧ ∀ p, p < i → p ∈ (closGo [] ops.toList).getD i [] ∨ ∃ F', (ms[p]?).bind foot = some F' ∧ indep F' F = true := by
    intro i hi
    have h := hall i hi
    split at h
    · rename_i o m ho hm
      simp only [Bool.and_eq_true, List.all_eq_true, decide_eq_true_eq] at h
      obtain ⟨h1, h2⟩ := h
      split at h2
      · rename_i F hF
        refine ⟨o, m, F, ho, hm, hF, h1, fun p hp => ?_⟩
        have h3 := List.all_eq_true.1 h2 p (List.mem_range.2 hp)
        simp only [Bool.or_eq_true, List.contains_iff_mem] at h3
        rcases h3 with h3 | h3
        · exact .inl h3
        · split at h3
          · rename_i F' hF'; exact .inr ⟨F', hF', h3⟩
          · cases h3
      · cases h2
    · cases h
  have hready : ∀ (listed : Array Bool) i, listed.size = ops.size → (i ∈ Region.ready .any ops listed ↔ i < ops.size ∧ listed.getD i true = false ∧ ∀ o, ops[i]? = some o → ∀ e ∈ edgesOf o, listed.getD e false = true) := by
    intro listed i hsz
    unfold Region.ready
    simp only [List.mem_filter, List.mem_range, Bool.and_eq_true, Bool.not_eq_true']
    constructor
    · rintro ⟨h1, h2, h3⟩
      refine ⟨h1, h2, fun o ho e he => ?_⟩
      rw [ho] at h3
      simp only [Option.map_some, Option.getD_some] at h3
      simp only [edgesOf, List.mem_map, List.mem_filter] at he
      obtain ⟨ed, ⟨h4, h5⟩, rfl⟩ := he
      have := Array.all_eq_true_iff_forall_mem.1 h3 ed (by simpa using h4)
      rw [h5] at this
      simpa using this
    · rintro ⟨h1, h2, h3⟩
      refine ⟨h1, h2, ?_⟩
      rw [Array.getElem?_eq_getElem h1]
      simp only [Option.map_some, Option.getD_some]
      refine Array.all_eq_true_iff_forall_mem.2 fun ed hed => ?_
      cases hb : Region.binds .any ed with
      | false => simp
      | true =>
        have := h3 _ (Array.getElem?_eq_getElem h1) ed.on (by
          simp only [edgesOf, List.mem_map, List.mem_filter]
          exact ⟨ed, ⟨by simpa using hed, hb⟩, rfl⟩)
        simpa using this
  have hnone : ∀ (listed : Array Bool), listed.size = ops.size → Region.ready .any ops listed = [] → ∀ i, i < ops.size → listed.getD i true = true := by
    intro listed hsz hr i
    induction i using Nat.strongRecOn with
    | _ i ih =>
      intro hi
      by_cases hl : listed.getD i true = true
      · exact hl
      · exfalso
        have hl' : listed.getD i true = false := by simpa using hl
        obtain ⟨o, m, F, ho, -, -, hedge, -⟩ := hat i hi
        have hm : i ∈ Region.ready .any ops listed := (hready listed i hsz).2 ⟨hi, hl', fun o' ho' e he => by
          rw [ho] at ho'; cases ho'
          have h1 := hedge e he
          have h2 := ih e h1 (by omega)
          have h3 : e < listed.size := by omega
          simpa [Array.getD, h3] using h2⟩
        rw [hr] at hm; cases hm
  intro fuel
  induction fuel with
  | zero =>
    intro listed g st a w hsz hf hcl hs h _ _ _
    have hnil : left ops.size listed = [] := List.eq_nil_of_length_eq_zero (by omega)
    have hr : Region.ready .any ops listed = [] := by
      cases he : Region.ready .any ops listed with
      | nil => rfl
      | cons i rest =>
        exfalso
        obtain ⟨h1, h2, -⟩ := (hready listed i hsz).1 (by rw [he]; simp)
        have : i ∈ left ops.size listed := List.mem_filter.2 ⟨List.mem_range.2 h1, by rw [h2]; rfl⟩
        rw [hnil] at this; cases this
    refine ⟨hr, ?_⟩
    have : rem ms ops.size listed = [] := by unfold rem; rw [hnil]; rfl
    rw [this] at hs
    simp only [steps, Option.some.injEq] at hs
    subst hs
    exact hQ g a w h
  | succ fuel ih =>
    intro listed g st a w hsz hf hcl hs h hinc hN hnd
    refine ⟨fun hr => ?_, fun i hi => ?_⟩
    · rw [rem_nil (hnone listed hsz hr)] at hs
      simp only [steps, Option.some.injEq] at hs
      subst hs
      exact hQ g a w h
    · obtain ⟨h1, h2, h3⟩ := (hready listed i hsz).1 hi
      obtain ⟨o, m, F, ho, hm, hF, hedge, hind⟩ := hat i h1
      have hiedge := h3 o ho
      obtain ⟨pre, post, e1, e2, e3⟩ := left_split h1 hsz h2
      have er : rem ms ops.size listed = pre.filterMap (ms[·]?) ++ m :: post.filterMap (ms[·]?) := by
        unfold rem; rw [e1, List.filterMap_append, List.filterMap_cons_some hm]
      have er' : rem ms ops.size (listed.setIfInBounds i true) = pre.filterMap (ms[·]?) ++ post.filterMap (ms[·]?) := by
        unfold rem; rw [e2, List.filterMap_append]
      rw [er] at hs hN hnd
      have hndp : (pre.filterMap (ms[·]?)).filterMap (·.dst) ++ (m :: post.filterMap (ms[·]?)).filterMap (·.dst) = (pre.filterMap (ms[·]?) ++ m :: post.filterMap (ms[·]?)).filterMap (·.dst) := List.filterMap_append.symm
      have hnd2 := hnd
      rw [← hndp, List.nodup_append] at hnd2
      obtain ⟨n1, n2, n3⟩ := hnd2
      obtain ⟨s, g1, g2⟩ := to_front hF (pre.filterMap (ms[·]?)) (post.filterMap (ms[·]?)) st (fun p hp => by
          obtain ⟨q, hq, hqp⟩ := List.mem_filterMap.1 hp
          obtain ⟨hlt, hnl⟩ := e3 q hq
          rcases hind q hlt with h5 | ⟨F', h5, h6⟩
          · exfalso
            have := clos_ok hcl ops.toList [] (fun k => by simp) (fun i o hi => by simp at hi) i o (by simpa using ho) hiedge q h5
            have h7 : q < listed.size := by omega
            simp only [Array.getD, h7, dif_pos] at this hnl
            rw [this] at hnl; cases hnl
          · rw [hqp] at h5
            exact ⟨F', h5, h6⟩) (fun p hp => hN p (List.mem_append_left _ hp)) n1 hinc hs
      have hmo := opsOK_at hops i o m (by simpa using ho) hm
      have hgoes := step_goes (K := wpAny c.P .any ops Q fuel (listed.setIfInBounds i true)) (Q := Q) hmo hcall h g1 fun g' a' w' h' => by
        have hsz' : (listed.setIfInBounds i true).size = ops.size := by simpa using hsz
        have hsub : ((pre.filterMap (ms[·]?) ++ post.filterMap (ms[·]?)).filterMap (·.dst)).Nodup := by
          rw [List.filterMap_append, List.nodup_append]
          have n2' : ((post.filterMap (ms[·]?)).filterMap (·.dst)).Nodup := by
            cases hmd : m.dst with
            | none => rwa [List.filterMap_cons_none hmd] at n2
            | some d => rw [List.filterMap_cons_some hmd] at n2; exact (List.nodup_cons.1 n2).2
          refine ⟨n1, n2', fun x hx y hy => n3 x hx y ?_⟩
          cases hmd : m.dst with
          | none => rwa [List.filterMap_cons_none hmd]
          | some d => rw [List.filterMap_cons_some hmd]; exact List.mem_cons_of_mem _ hy
        refine ih (listed.setIfInBounds i true) g' s a' w' hsz' (by
            have := congrArg List.length e1
            rw [e2]; simp at this ⊢; omega) (fun j oj hoj hLj e he => ?_) (by rw [er']; exact g2) h' (step_incr hF g1 hinc) (fun p hp d hd => ?_) (by rw [er']; exact hsub)
        · have hi' : i < listed.size := by omega
          have hLj : (listed.setIfInBounds i true).getD j false = true := hLj
          show (listed.setIfInBounds i true).getD e false = true
          rw [getD_set _ _ _ _ hi'] at hLj ⊢
          by_cases hej : e = i
          · rw [if_pos hej]
          · rw [if_neg hej]
            by_cases hji : j = i
            · subst hji
              have : ops.toList[j]? = some o := by simpa using ho
              rw [hoj] at this; cases this
              exact hiedge e he
            · rw [if_neg hji] at hLj
              exact hcl j oj hoj hLj e he
        · rw [er'] at hp
          have hp' : p ∈ pre.filterMap (ms[·]?) ++ m :: post.filterMap (ms[·]?) := by
            rcases List.mem_append.1 hp with h5 | h5
            · exact List.mem_append_left _ h5
            · exact List.mem_append_right _ (List.mem_cons_of_mem _ h5)
          refine step_clean hF g1 hinc (fun hmd => ?_) (hN p hp' d hd)
          rw [List.filterMap_cons_some hmd] at n2 n3
          rcases List.mem_append.1 hp with h5 | h5
          · exact n3 d (List.mem_filterMap.2 ⟨p, h5, hd⟩) d List.mem_cons_self rfl
          · exact (List.nodup_cons.1 n2).1 (List.mem_filterMap.2 ⟨p, h5, hd⟩)
      unfold Oper.goes at hgoes
      unfold wpOp
      rw [ho]
      simp only
      split
      · rename_i hw; rw [if_pos hw] at hgoes; exact .inl hgoes
      · rename_i hw; rw [if_neg hw] at hgoes; exact hgoes

theorem range_get (ms : List MO) : (List.range ms.length).filterMap (ms[·]?) = ms := by
  have key : ∀ (m k : Nat), k + m = ms.length → (List.range' k m).filterMap (ms[·]?) = ms.drop k := by
    intro m
    induction m with
    | zero => intro k hk; simp [List.drop_eq_nil_of_le (show ms.length ≤ k by omega)]
    | succ m ih =>
      intro k hk
      have hlt : k < ms.length := by omega
      rw [List.range'_succ, List.filterMap_cons_some (List.getElem?_eq_getElem hlt), ih (k + 1) (by omega), List.drop_eq_getElem_cons hlt]
  rw [List.range_eq_range', key ms.length 0 (by omega), List.drop_zero]

theorem draw_wp {ops : Array Oper} {ms : List MO} {call : FuncId → List V → Option V} {Q : Exit → Act → World → Prop} (hcall : ∀ f args r, call f args = some r → Good c.P c.gl f args r ∧ Entry c.P f)
    (hops : opsOK c.P c.gl c.nt ops ops.toList ms = true) (hdraw : drawOK ops ms = true) (h : FInv c g st a w) (ht : tidy ms st = true) (hv : steps call ms st = some st1) (hQ : ∀ g a w, FInv c g st1 a w → Q .normal a w) :
    wpAny c.P .any ops Q ops.size (Array.replicate ops.size false) a w := by
  have hd := hdraw
  simp only [drawOK, Bool.and_eq_true, beq_iff_eq] at hd
  have hlen := hd.1.2
  simp only [tidy, Bool.and_eq_true, List.all_eq_true] at ht
  have hleft : left ops.size (Array.replicate ops.size false) = List.range ops.size := by
    unfold left
    refine List.filter_eq_self.2 fun i hi => ?_
    have := List.mem_range.1 hi
    simp [Array.getD, this]
  have hrem : rem ms ops.size (Array.replicate ops.size false) = ms := by
    unfold rem
    rw [hleft, ← hlen]
    exact range_get ms
  refine any_wp hcall hops hdraw hQ ops.size _ g st a w (by simp) (by rw [hleft]; simp) (fun i o _ hl => ?_) (by rw [hrem]; exact hv) h ht.1 (by
      rw [hrem]
      intro p hp d hd'
      have := ht.2 p hp
      rw [hd'] at this
      exact this) (by rw [hrem]; exact nodupB_iff hd.1.1)
  exfalso
  simp [Array.getD] at hl

end Go.Vi
