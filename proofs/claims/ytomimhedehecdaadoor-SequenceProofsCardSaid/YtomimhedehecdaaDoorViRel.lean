/- What an abstract value says of a real one, in a world in which some cells are known to stay. -/
import Derived.Test.YtomimhedehecdaaDoorViCore
import Derived.Laws.AppendOwn
import Derived.Laws.CopyRow
import Derived.Laws.Rows
import Derived.Orders
namespace Go.Vi

abbrev Stab := Nat → Nat → Prop

/-- The cells (and maps) that stay are as they were. -/
def Keep (S : Stab) (w w' : World) : Prop := ∀ b k, S b k → w'.cell? ⟨b, k, none⟩ = w.cell? ⟨b, k, none⟩ ∧ ∀ es c, w.heap[b]? = some (.map es c) → w'.heap[b]? = some (.map es c)

/-- A map's entries came one after another. -/
def Born (ents : Array MapEntry) (clock : Nat) : Prop := (∀ e ∈ ents.toList, e.born < clock) ∧ (ents.toList.map (·.born)).Nodup

inductive Rel (w : World) (S : Stab) : V → Value → List Nat → Prop
  | undef (v : Value) : Rel w S .undef v []
  | skp : Rel w S .skp Go.undef []
  | bool (b : Bool) : Rel w S (.bool b) (.bool b) []
  | abool (b : Bool) : Rel w S .abool (.bool b) []
  | int (k : IntKind) (n : Int) : Rel w S (.int k n) (.int k n) []
  | str (s : ByteArray) : Rel w S (.str s) (.string s) []
  | nili : Rel w S .nili .nilIface []
  | nilp : Rel w S .nilp (.pointer none) []
  | nilf : Rel w S .nilf .nilFunc []
  | raw (v : Value) : Rel w S (.raw v) v []
  | agg (cs : List V) (vs : Array Value) (hl : cs.length = vs.size) (h : ∀ (i : Nat) (c : V) (v : Value), cs[i]? = some c → vs[i]? = some v → Rel w S c v []) : Rel w S (.agg cs) (.agg vs) []
  | tup (xs : List V) (vs : Array Value) (os : List (List Nat)) (hl : xs.length = vs.size) (ho : os.length = xs.length)
      (h : ∀ (i : Nat) (x : V) (v : Value) (o : List Nat), xs[i]? = some x → vs[i]? = some v → os[i]? = some o → Rel w S x v o) : Rel w S (.tup xs) (.tuple vs) os.flatten
  | sl0 (o : Own) (sz : Nat) (a : Option Addr) : Rel w S (.sl o sz []) (.slice a 0 0) []
  | sls (sz : Nat) (xs : List (List V)) (a : Option Addr) (n c : Nat) (f : Nat → Nat → Value) (hn : n = xs.length) (hnc : n ≤ c) (hx : ∀ (i : Nat) (x : List V), xs[i]? = some x → x.length = sz)
      (ha : 0 < xs.length → ∃ b off, a = some ⟨b, off, none⟩ ∧ ∀ i j, i < xs.length → j < sz → S b (off + (i * sz + j)) ∧ w.cell? ⟨b, off + (i * sz + j), none⟩ = some (f i j))
      (hr : ∀ (i : Nat) (x : List V) (j : Nat) (y : V), xs[i]? = some x → x[j]? = some y → Rel w S y (f i j) []) : Rel w S (.sl .s sz xs) (.slice a n c) []
  | slo (o : Own) (sz : Nat) (xs : List (List V)) (b off n c : Nat) (f : Nat → Nat → Value) (C : Array Value) (e : TypeId) (ho : o ≠ .s) (hn : n = xs.length) (hx : ∀ (i : Nat) (x : List V), xs[i]? = some x → x.length = sz)
      (hb : w.heap[b]? = some (.cells C e (0, 0))) (hsz : off + c * sz ≤ C.size) (hc : n ≤ c) (hm : c ≤ 9223372036854775807)
      (hf : ∀ i j, i < xs.length → j < sz → C[off + (i * sz + j)]? = some (f i j))
      (hS : o = .a → ∀ i j, i < xs.length → j < sz → S b (off + (i * sz + j)))
      (hN : ∀ k, (o = .x ∨ off + xs.length * sz ≤ k) → ¬ S b k)
      (hr : ∀ (i : Nat) (x : List V) (j : Nat) (y : V), xs[i]? = some x → x[j]? = some y → Rel w S y (f i j) []) : Rel w S (.sl o sz xs) (.slice (some ⟨b, off, none⟩) n c) [b]
  | ptr (cs : List V) (off b o0 : Nat) (f : Nat → Value) (hc : ∀ j, j < cs.length → S b (o0 + j) ∧ w.cell? ⟨b, o0 + j, none⟩ = some (f j))
      (hr : ∀ (j : Nat) (y : V), cs[j]? = some y → Rel w S y (f j) []) : Rel w S (.ptr cs off) (.pointer (some ⟨b, o0 + off, none⟩)) []
  | mps (es es0 : List (V × V)) (hp : es.Perm es0) (r : Nat) (ents : Array MapEntry) (clock : Nat) (hb : w.heap[r]? = some (.map ents clock)) (hl : es0.length = ents.size) (hbn : Born ents clock) (hS : S r 0)
      (hk : ∀ (i : Nat) (kv : V × V) (e : MapEntry), es0[i]? = some kv → ents[i]? = some e → Rel w S kv.1 e.key [])
      (hv : ∀ (i : Nat) (kv : V × V) (e : MapEntry), es0[i]? = some kv → ents[i]? = some e → Rel w S kv.2 e.val []) : Rel w S (.mp .s es) (.map (some r)) []
  | mpx (es es0 : List (V × V)) (hp : es.Perm es0) (r : Nat) (ents : Array MapEntry) (clock : Nat) (hb : w.heap[r]? = some (.map ents clock)) (hl : es0.length = ents.size) (hbn : Born ents clock) (hN : ∀ k, ¬ S r k)
      (hk : ∀ (i : Nat) (kv : V × V) (e : MapEntry), es0[i]? = some kv → ents[i]? = some e → Rel w S kv.1 e.key [])
      (hv : ∀ (i : Nat) (kv : V × V) (e : MapEntry), es0[i]? = some kv → ents[i]? = some e → Rel w S kv.2 e.val []) : Rel w S (.mp .x es) (.map (some r)) [r]
  | it (cur es es0 : List (V × V)) (hp : es.Perm es0) (r m : Nat) (ents : Array MapEntry) (clock : Nat) (seen : Array Nat) (ec : MapEntry) (hb : w.heap[r]? = some (.mapIter (some m) clock seen clock)) (hm : w.heap[m]? = some (.map ents clock)) (hbn : Born ents clock) (hS : S m 0) (hN : ∀ k, ¬ S r k)
      (hl : es0.length = (ents.toList.filter fun e => !seen.contains e.born).length)
      (hk : ∀ (i : Nat) (kv : V × V) (e : MapEntry), es0[i]? = some kv → (ents.toList.filter fun e => !seen.contains e.born)[i]? = some e → Rel w S kv.1 e.key [])
      (hv : ∀ (i : Nat) (kv : V × V) (e : MapEntry), es0[i]? = some kv → (ents.toList.filter fun e => !seen.contains e.born)[i]? = some e → Rel w S kv.2 e.val [])
      (hc : cur ≠ [] → (∃ s0 : Array Nat, seen = s0.push ec.born) ∧ ec ∈ ents.toList) (hck : ∀ kv ∈ cur, Rel w S kv.1 ec.key []) (hcv : ∀ kv ∈ cur, Rel w S kv.2 ec.val []) : Rel w S (.it cur es) (.pointer (some ⟨r, 0, none⟩)) [r]
  | fn (f : Fn) (fs cs : List V) (fs' cs' : Array Value) (hl : fs.length = fs'.size) (hl' : cs.length = cs'.size)
      (hf : ∀ (i : Nat) (c : V) (v : Value), fs[i]? = some c → fs'[i]? = some v → Rel w S c v [])
      (hc : ∀ (i : Nat) (c : V) (v : Value), cs[i]? = some c → cs'[i]? = some v → Rel w S c v []) : Rel w S (.fn f fs cs) (.func f fs' cs') []

theorem cell_of_heap {w w' : World} {b : Nat} (h : w'.heap[b]? = w.heap[b]?) (k : Nat) : w'.cell? ⟨b, k, none⟩ = w.cell? ⟨b, k, none⟩ := by simp [World.cell?, h]

/-- What is said stays true while what stays stays, and what is owned is not touched. -/
theorem Rel.keep {w w' : World} {S S' : Stab} {x : V} {v : Value} {o : List Nat} (h : Rel w S x v o) (hk : Keep S w w') (hS : ∀ b k, S b k → S' b k)
    (hb : ∀ b ∈ o, w'.heap[b]? = w.heap[b]?) (hN : ∀ b ∈ o, ∀ k, S' b k → S b k) : Rel w' S' x v o := by
  induction h with
  | undef v => exact .undef v
  | skp => exact .skp
  | bool b => exact .bool b
  | abool b => exact .abool b
  | int k n => exact .int k n
  | str s => exact .str s
  | nili => exact .nili
  | nilp => exact .nilp
  | nilf => exact .nilf
  | raw v => exact .raw v
  | agg cs vs hl _ ih => exact .agg cs vs hl fun i c v h1 h2 => ih i c v h1 h2 (by simp) (by simp)
  | tup xs vs os hl ho _ ih =>
    refine .tup xs vs os hl ho fun i x v o h1 h2 h3 => ih i x v o h1 h2 h3 ?_ ?_
    · exact fun b hb' => hb b (List.mem_flatten.2 ⟨o, List.mem_of_getElem? h3, hb'⟩)
    · exact fun b hb' => hN b (List.mem_flatten.2 ⟨o, List.mem_of_getElem? h3, hb'⟩)
  | sl0 o sz a => exact .sl0 o sz a
  | sls sz xs a n c f hn hnc hx ha _ ih =>
    refine .sls sz xs a n c f hn hnc hx (fun h0 => ?_) fun i x j y h1 h2 => ih i x j y h1 h2 (by simp) (by simp)
    obtain ⟨b, off, rfl, hc⟩ := ha h0
    exact ⟨b, off, rfl, fun i j hi hj => ⟨hS _ _ (hc i j hi hj).1, ((hk _ _ (hc i j hi hj).1).1).trans (hc i j hi hj).2⟩⟩
  | slo o sz xs b off n c f C e ho hn hx hb' hsz hc hm hf hSS hNN _ ih =>
    exact .slo o sz xs b off n c f C e ho hn hx ((hb b (by simp)).trans hb') hsz hc hm hf (fun h i j hi hj => hS _ _ (hSS h i j hi hj))
      (fun k hk' hs => hNN k hk' (hN b (by simp) k hs)) fun i x j y h1 h2 => ih i x j y h1 h2 (by simp) (by simp)
  | ptr cs off b o0 f hc _ ih =>
    exact .ptr cs off b o0 f (fun j hj => ⟨hS _ _ (hc j hj).1, ((hk _ _ (hc j hj).1).1).trans (hc j hj).2⟩) fun j y h1 => ih j y h1 (by simp) (by simp)
  | mps es es0 hp r ents clock hb' hl hbn hS' _ _ ihk ihv =>
    exact .mps es es0 hp r ents clock ((hk _ _ hS').2 _ _ hb') hl hbn (hS _ _ hS') (fun i kv e h1 h2 => ihk i kv e h1 h2 (by simp) (by simp)) fun i kv e h1 h2 => ihv i kv e h1 h2 (by simp) (by simp)
  | mpx es es0 hp r ents clock hb' hl hbn hN' _ _ ihk ihv =>
    exact .mpx es es0 hp r ents clock ((hb r (by simp)).trans hb') hl hbn (fun k hs => hN' k (hN r (by simp) k hs)) (fun i kv e h1 h2 => ihk i kv e h1 h2 (by simp) (by simp)) fun i kv e h1 h2 => ihv i kv e h1 h2 (by simp) (by simp)
  | it cur es es0 hp r m ents clock seen ec hb' hm hbn hS' hN' hl _ _ hc _ _ ihk ihv ihck ihcv =>
    exact .it cur es es0 hp r m ents clock seen ec ((hb r (by simp)).trans hb') ((hk _ _ hS').2 _ _ hm) hbn (hS _ _ hS') (fun k hs => hN' k (hN r (by simp) k hs)) hl (fun i kv e h1 h2 => ihk i kv e h1 h2 (by simp) (by simp)) (fun i kv e h1 h2 => ihv i kv e h1 h2 (by simp) (by simp))
      hc (fun kv h1 => ihck kv h1 (by simp) (by simp)) (fun kv h1 => ihcv kv h1 (by simp) (by simp))
  | fn f fs cs fs' cs' hl hl' _ _ ihf ihc =>
    exact .fn f fs cs fs' cs' hl hl' (fun i c v h1 h2 => ihf i c v h1 h2 (by simp) (by simp)) fun i c v h1 h2 => ihc i c v h1 h2 (by simp) (by simp)

theorem Rel.keep0 {w w' : World} {S S' : Stab} {x : V} {v : Value} (h : Rel w S x v []) (hk : Keep S w w') (hS : ∀ b k, S b k → S' b k) : Rel w' S' x v [] :=
  h.keep hk hS (by simp) (by simp)

/-- What a copy says. -/
theorem Rel.copy {w : World} {S : Stab} {x : V} {v : Value} {o : List Nat} (h : Rel w S x v o) : Rel w S (cp x) v [] := by
  cases h with
  | sl0 o sz a =>
    cases o with
    | s => exact .sl0 _ _ _
    | a => exact .sl0 _ _ _
    | x => exact .undef _
  | slo o sz xs b off n c f C e ho hn hx hb hsz hc hm hf hS hN hr =>
    cases o with
    | s => exact absurd rfl ho
    | x => exact .undef _
    | a =>
      refine .sls sz xs _ n c f hn hc hx (fun h0 => ⟨b, off, rfl, fun i j hi hj => ⟨hS rfl i j hi hj, ?_⟩⟩) hr
      simp [World.cell?, hb, hf i j hi hj]
  | mpx => exact .undef _
  | it => exact .undef _
  | mps es es0 hp r ents clock hb hl hbn hS hk hv => exact .mps es es0 hp r ents clock hb hl hbn hS hk hv
  | undef v => exact .undef v
  | skp => exact .skp
  | bool b => exact .bool b
  | abool b => exact .abool b
  | int k n => exact .int k n
  | str s => exact .str s
  | nili => exact .nili
  | nilp => exact .nilp
  | nilf => exact .nilf
  | raw v => exact .raw v
  | agg cs vs hl h => exact .agg cs vs hl h
  | tup xs vs os hl ho h => exact .undef _
  | sls sz xs a n c f hn hnc hx ha hr => exact .sls sz xs a n c f hn hnc hx ha hr
  | ptr cs off b o0 f hc hr => exact .ptr cs off b o0 f hc hr
  | fn f fs cs fs' cs' hl hl' hf hc => exact .fn f fs cs fs' cs' hl hl' hf hc

/-- What is one cell is one cell. -/
theorem Rel.one {w : World} {S : Stab} {x : V} {v : Value} {o : List Nat} (h : Rel w S x v o) (hl : leaf x = true) : v.oneCell' = true ∧ v.cells = #[v] := by
  cases h <;> simp_all [leaf, Value.oneCell', Value.cells]

/-- The cells of a value. -/
theorem Rel.flat {w : World} {S : Stab} {x : V} {v : Value} {o : List Nat} (h : Rel w S x v o) (hl : (flat x).all leaf = true) :
    (flat x).length = v.cells.size ∧ (∀ u ∈ v.cells.toList, u.oneCell' = true) ∧ ∃ os : List (List Nat), os.flatten = o ∧ os.length = (Vi.flat x).length ∧ ∀ (i : Nat) (c : V) (u : Value) (ob : List Nat), (Vi.flat x)[i]? = some c → v.cells[i]? = some u → os[i]? = some ob → Rel w S c u ob := by
  by_cases hx : ∃ cs, x = .agg cs
  · obtain ⟨cs, rfl⟩ := hx
    cases h with
    | agg _ vs hlen hc =>
      simp only [Vi.flat, List.all_eq_true] at hl ⊢
      refine ⟨by simpa [Value.cells] using hlen, ?_, List.replicate cs.length [], by simp, by simp, ?_⟩
      · intro u hu
        simp only [Value.cells] at hu
        obtain ⟨i, hi⟩ := List.mem_iff_getElem?.1 hu
        have hi' : vs[i]? = some u := by simpa using hi
        have hlt : i < cs.length := by rw [hlen]; exact (Array.getElem?_eq_some_iff.1 hi').1
        exact ((hc i cs[i] u (by simp [hlt]) hi').one (hl _ (List.getElem_mem hlt))).1
      · intro i c u ob h1 h2 h3
        have : ob = [] := by
          rw [List.getElem?_replicate] at h3
          split at h3 <;> simp_all
        subst this
        exact hc i c u h1 (by simpa [Value.cells] using h2)
  · have hf : Vi.flat x = [x] := by cases x <;> simp_all [Vi.flat]
    rw [hf] at hl ⊢
    simp only [List.all_cons, List.all_nil, Bool.and_true] at hl
    obtain ⟨h1, h2⟩ := h.one hl
    refine ⟨by rw [h2]; rfl, by rw [h2]; simpa using h1, [o], by simp, by simp, ?_⟩
    intro i c u ob g1 g2 g3
    rw [h2] at g2
    cases i with
    | zero => simp at g1 g2 g3; subst g1 g2 g3; exact h
    | succ i => simp at g1

theorem Rel.ptr_inv {w : World} {S : Stab} {cs : List V} {off : Nat} {r : Value} {o : List Nat} (h : Rel w S (.ptr cs off) r o) :
    o = [] ∧ ∃ (b o0 : Nat) (f : Nat → Value), r = .pointer (some ⟨b, o0 + off, none⟩) ∧ (∀ j, j < cs.length → S b (o0 + j) ∧ w.cell? ⟨b, o0 + j, none⟩ = some (f j)) ∧ ∀ (j : Nat) (y : V), cs[j]? = some y → Rel w S y (f j) [] := by
  generalize hv : V.ptr cs off = v at h
  cases h with
  | ptr cs' off' b o0 f hc hr => cases hv; exact ⟨rfl, b, o0, f, rfl, hc, hr⟩
  | _ => cases hv

theorem Rel.slx_inv {w : World} {S : Stab} {sz : Nat} {xs : List (List V)} {r : Value} {o : List Nat} (h : Rel w S (.sl .x sz xs) r o) : (xs = [] ∧ ∃ a, r = .slice a 0 0) ∨
    ∃ (b off n c : Nat) (f : Nat → Nat → Value) (C : Array Value) (e : TypeId), r = .slice (some ⟨b, off, none⟩) n c ∧ o = [b] ∧ n = xs.length ∧ (∀ (i : Nat) (x : List V), xs[i]? = some x → x.length = sz) ∧
      w.heap[b]? = some (.cells C e (0, 0)) ∧ off + c * sz ≤ C.size ∧ n ≤ c ∧ (∀ i j, i < xs.length → j < sz → C[off + (i * sz + j)]? = some (f i j)) ∧ (∀ k, ¬ S b k) ∧
      ∀ (i : Nat) (x : List V) (j : Nat) (y : V), xs[i]? = some x → x[j]? = some y → Rel w S y (f i j) [] := by
  generalize hv : V.sl .x sz xs = v at h
  cases h with
  | sl0 o' sz' a => cases hv; exact .inl ⟨rfl, a, rfl⟩
  | slo o' sz' xs' b off n c f C e ho hn hx hb hsz hc hm hf hS hN hr => cases hv; exact .inr ⟨b, off, n, c, f, C, e, rfl, rfl, hn, hx, hb, hsz, hc, hf, fun k => hN k (.inl rfl), hr⟩
  | sls => cases hv
  | _ => cases hv

theorem Rel.slx_cap {w : World} {S : Stab} {o : Own} {sz : Nat} {xs : List (List V)} {ad : Option Addr} {n c : Nat} {ob : List Nat} (h : Rel w S (.sl o sz xs) (.slice ad n c) ob) (ho : o ≠ .s) : c ≤ 9223372036854775807 := by
  generalize hv : V.sl o sz xs = v at h
  generalize hr : Value.slice ad n c = r at h
  cases h with
  | sl0 o' sz' a => cases hr; omega
  | slo o' sz' xs' b off n c f C e ho hn hx hb hsz hc hm => cases hr; exact hm
  | sls => cases hv; exact absurd rfl ho
  | _ => cases hv

theorem Rel.sls_inv {w : World} {S : Stab} {sz : Nat} {xs : List (List V)} {r : Value} {o : List Nat} (h : Rel w S (.sl .s sz xs) r o) : o = [] ∧
    ∃ (a : Option Addr) (n c : Nat) (f : Nat → Nat → Value), r = .slice a n c ∧ n = xs.length ∧ n ≤ c ∧ (∀ (i : Nat) (x : List V), xs[i]? = some x → x.length = sz) ∧
      (0 < xs.length → ∃ b off, a = some ⟨b, off, none⟩ ∧ ∀ i j, i < xs.length → j < sz → S b (off + (i * sz + j)) ∧ w.cell? ⟨b, off + (i * sz + j), none⟩ = some (f i j)) ∧
      ∀ (i : Nat) (x : List V) (j : Nat) (y : V), xs[i]? = some x → x[j]? = some y → Rel w S y (f i j) [] := by
  generalize hv : V.sl .s sz xs = v at h
  cases h with
  | sl0 o' sz' a => cases hv; exact ⟨rfl, a, 0, 0, fun _ _ => Go.undef, rfl, rfl, Nat.le_refl _, by simp, by simp, by simp⟩
  | sls sz' xs' a n c f hn hnc hx ha hr => cases hv; exact ⟨rfl, a, n, c, f, rfl, hn, hnc, hx, ha, hr⟩
  | slo o' sz' xs' b off n c f C e ho => cases hv; exact absurd rfl ho
  | _ => cases hv

theorem Rel.tup_inv {w : World} {S : Stab} {xs : List V} {r : Value} {o : List Nat} (h : Rel w S (.tup xs) r o) : ∃ (vs : Array Value) (os : List (List Nat)), r = .tuple vs ∧ o = os.flatten ∧ xs.length = vs.size ∧ os.length = xs.length ∧
    ∀ (i : Nat) (x : V) (v : Value) (o : List Nat), xs[i]? = some x → vs[i]? = some v → os[i]? = some o → Rel w S x v o := by
  generalize hv : V.tup xs = v at h
  cases h with
  | tup xs' vs os hl ho hr => cases hv; exact ⟨vs, os, rfl, rfl, hl, ho, hr⟩
  | _ => cases hv

theorem Rel.agg_inv {w : World} {S : Stab} {cs : List V} {r : Value} {o : List Nat} (h : Rel w S (.agg cs) r o) : o = [] ∧ ∃ vs : Array Value, r = .agg vs ∧ cs.length = vs.size ∧ ∀ (i : Nat) (c : V) (v : Value), cs[i]? = some c → vs[i]? = some v → Rel w S c v [] := by
  generalize hv : V.agg cs = v at h
  cases h with
  | agg cs' vs hl hr => cases hv; exact ⟨rfl, vs, rfl, hl, hr⟩
  | _ => cases hv

theorem Rel.fn_inv {w : World} {S : Stab} {f : Fn} {fs cs : List V} {r : Value} {o : List Nat} (h : Rel w S (.fn f fs cs) r o) : o = [] ∧ ∃ fs' cs' : Array Value, r = .func f fs' cs' ∧ fs.length = fs'.size ∧ cs.length = cs'.size ∧
    (∀ (i : Nat) (c : V) (v : Value), fs[i]? = some c → fs'[i]? = some v → Rel w S c v []) ∧ ∀ (i : Nat) (c : V) (v : Value), cs[i]? = some c → cs'[i]? = some v → Rel w S c v [] := by
  generalize hv : V.fn f fs cs = v at h
  cases h with
  | fn f' fs' cs' a b hl hl' hf hc => cases hv; exact ⟨rfl, a, b, rfl, hl, hl', hf, hc⟩
  | _ => cases hv

theorem Rel.mpx_inv {w : World} {S : Stab} {es : List (V × V)} {r : Value} {o : List Nat} (h : Rel w S (.mp .x es) r o) : ∃ (es0 : List (V × V)) (r' : Nat) (ents : Array MapEntry) (clock : Nat), es.Perm es0 ∧ r = .map (some r') ∧ o = [r'] ∧ w.heap[r']? = some (.map ents clock) ∧ es0.length = ents.size ∧ Born ents clock ∧ (∀ k, ¬ S r' k) ∧
    (∀ (i : Nat) (kv : V × V) (e : MapEntry), es0[i]? = some kv → ents[i]? = some e → Rel w S kv.1 e.key []) ∧ ∀ (i : Nat) (kv : V × V) (e : MapEntry), es0[i]? = some kv → ents[i]? = some e → Rel w S kv.2 e.val [] := by
  generalize hv : V.mp .x es = v at h
  cases h with
  | mpx es' es0 hp r' ents clock hb hl hbn hN hk hv' => cases hv; exact ⟨es0, r', ents, clock, hp, rfl, rfl, hb, hl, hbn, hN, hk, hv'⟩
  | mps => cases hv
  | _ => cases hv

theorem Rel.mp_inv {w : World} {S : Stab} {own : Own} {es : List (V × V)} {r : Value} {o : List Nat} (h : Rel w S (.mp own es) r o) : ∃ (es0 : List (V × V)) (r' : Nat) (ents : Array MapEntry) (clock : Nat), es.Perm es0 ∧ r = .map (some r') ∧ w.heap[r']? = some (.map ents clock) ∧ es0.length = ents.size ∧ Born ents clock ∧
    (∀ (i : Nat) (kv : V × V) (e : MapEntry), es0[i]? = some kv → ents[i]? = some e → Rel w S kv.1 e.key []) ∧ ∀ (i : Nat) (kv : V × V) (e : MapEntry), es0[i]? = some kv → ents[i]? = some e → Rel w S kv.2 e.val [] := by
  generalize hv : V.mp own es = v at h
  cases h with
  | mpx es' es0 hp r' ents clock hb hl hbn hN hk hv' => cases hv; exact ⟨es0, r', ents, clock, hp, rfl, hb, hl, hbn, hk, hv'⟩
  | mps es' es0 hp r' ents clock hb hl hbn hS hk hv' => cases hv; exact ⟨es0, r', ents, clock, hp, rfl, hb, hl, hbn, hk, hv'⟩
  | _ => cases hv

end Go.Vi
