/- Any order that the program allows gives what the text's order gives. -/
import Derived.Test.YtomimhedehecdaaDoorViComm4
import Derived.Orders
namespace Go.Vi
variable {call : FuncId → List V → Option V} {st st' st1 s1 s2 : St}

def disj (a b : List Nat) : Bool := a.all fun x => !b.contains x
theorem disj_iff {a b : List Nat} (h : disj a b = true) {x : Nat} (h1 : x ∈ a) : x ∉ b := by
  have := List.all_eq_true.1 h x h1
  simpa using this

def indep (f g : Foot) : Bool := disj f.wr (g.rd ++ g.wr) && disj g.wr f.rd && disj f.wb (g.rb ++ g.wb) && disj g.wb f.rb

theorem at_get {k : Bool} {d n : Nat} (h : nm k d (st.at n) = true) : get st.tm n = some (st.at n) := by
  unfold St.at at h ⊢
  cases hg : get st.tm n with
  | none => rw [hg] at h; simp [nm] at h
  | some u => rfl

/-- All that a step changes. -/
def full (δ : D) (last : Option (Nat × V)) : D := ⟨δ.tm ++ last.toList, δ.bx⟩
theorem fin_full (δ : D) (last : Option (Nat × V)) (s : St) : fin last (δ.ap s) = (full δ last).ap s := by
  cases last with
  | none => simp [fin, full, D.ap]
  | some p => simp [fin, full, D.ap, puts, List.foldl_append]

theorem full_keys {m : MO} {F : Foot} {δ : D} {last : Option (Nat × V)} {ck : Option (Bool × Nat)} (L : SL call m st F s1 δ last ck) : ∀ p ∈ (full δ last).tm, p.1 ∈ F.wr := by
  intro p hp
  rcases List.mem_append.1 hp with h | h
  · exact (L.tm p h).1
  · cases hl : last with
    | none => rw [hl] at h; simp at h
    | some q =>
      rw [hl] at h
      simp only [Option.toList_some, List.mem_singleton] at h
      subst h
      exact (L.lastw p.1 p.2 hl).2.1

theorem at_other {δ : D} {t : Nat} (h : ∀ p ∈ δ.tm, p.1 ≠ t) (s : St) : (δ.ap s).at t = s.at t := by
  simp only [St.at, D.ap, get_puts_other h]

theorem swap {i j : MO} {Fi Fj : Foot} (hfi : foot i = some Fi) (hfj : foot j = some Fj) (hind : indep Fi Fj = true) (hN : ∀ d, i.dst = some d → data (st.at d) = true) (hinc : incr st.tm = true)
    (h1 : step call i st = some s1) (h2 : step call j s1 = some s2) : ∃ sj, step call j st = some sj ∧ step call i sj = some s2 := by
  simp only [indep, Bool.and_eq_true] at hind
  obtain ⟨⟨⟨d1, d2⟩, d3⟩, d4⟩ := hind
  obtain ⟨δi, li, ci, Li⟩ := step_sl hfi h1 hinc
  have e1 : s1 = (full δi li).ap st := by rw [Li.eq, fin_full]
  have hinc1 : incr s1.tm = true := by rw [e1]; exact incr_puts hinc
  obtain ⟨δj, lj, cj, Lj⟩ := step_sl hfj h2 hinc1
  have e2 : s2 = (full δj lj).ap s1 := by rw [Lj.eq, fin_full]
  have ki := full_keys Li
  have kj := full_keys Lj
  have hiw : ∀ t, t ∈ Fi.wr → t ∉ Fj.rd ∧ t ∉ Fj.wr := fun t ht => by
    have := disj_iff d1 ht
    simp only [List.mem_append, not_or] at this
    exact this
  have hib : ∀ t, t ∈ Fi.wb → t ∉ Fj.rb ∧ t ∉ Fj.wb := fun t ht => by
    have := disj_iff d3 ht
    simp only [List.mem_append, not_or] at this
    exact this
  have hat1 : ∀ t, t ∉ Fi.wr → s1.at t = st.at t := fun t ht => by
    rw [e1]; exact at_other (t := t) (fun p hp e => ht (e ▸ ki p hp)) st
  have hget1 : ∀ t, t ∉ Fi.wr → get s1.tm t = get st.tm t := fun t ht => by
    rw [e1]; exact get_puts_other (t := t) (fun p hp e => ht (e ▸ ki p hp)) _
  have hgetj : ∀ (s : St) t, t ∉ Fj.wr → get (puts δj.tm s.tm) t = get s.tm t := fun s t ht => get_puts_other (t := t) (fun p hp e => ht (e ▸ (Lj.tm p hp).1)) _
  have agj : Agree s1 st Fj := ⟨fun t ht => (hat1 t fun hw => (hiw t hw).1 ht).symm, fun d hd => by
    rw [e1]
    exact (get_puts_other (t := d) (fun p hp e => (hib d (e ▸ Li.bx p hp)).1 hd) _).symm⟩
  have okj : Ck cj δj st := by
    intro k d hk t u hg
    by_cases hkey : ∃ p ∈ δj.tm, p.1 = t
    · obtain ⟨p, hp, -, h4⟩ := get_puts_mem hkey st.tm
      rw [hg] at h4
      cases h4
      exact .inr (nm_data (Lj.tm p hp).2)
    · have hne : ∀ p ∈ δj.tm, p.1 ≠ t := fun p hp e => hkey ⟨p, hp, e⟩
      rw [get_puts_other hne] at hg
      have hu : st.at t = u := by simp [St.at, hg]
      by_cases hi : ∃ p ∈ (full δi li).tm, p.1 = t
      · obtain ⟨p, hp, rfl⟩ := hi
        rcases List.mem_append.1 hp with h5 | h5
        · rcases Li.hand p h5 with h6 | ⟨d', h6⟩
          · rw [hu] at h6; exact .inr (nm_data h6)
          · rw [hu] at h6
            obtain ⟨-, h7, -⟩ := Li.lastw d' u h6
            have h8 : get s1.tm d' = some u := by rw [Li.eq, h6]; simp [fin, get_put]
            have h9 := Lj.ok k d hk d' u (by rw [hgetj s1 d' (hiw d' h7).2]; exact h8)
            rcases h9 with h9 | h9
            · exact absurd (Lj.ckw k d hk).2.1 (h9.2 ▸ (hiw d' h7).2)
            · exact .inr h9
        · cases hl : li with
          | none => rw [hl] at h5; simp at h5
          | some q =>
            rw [hl] at h5
            simp only [Option.toList_some, List.mem_singleton] at h5
            subst h5
            have := hN p.1 (Li.lastw p.1 p.2 hl).1
            rw [hu] at this
            exact .inr (nm_data this)
      · have hne2 : ∀ p ∈ (full δi li).tm, p.1 ≠ t := fun p hp e => hi ⟨p, hp, e⟩
        refine Lj.ok k d hk t u ?_
        rw [get_puts_other hne, e1]
        exact (get_puts_other hne2 _).trans hg
  have gj := Lj.go st agj hinc okj
  rw [fin_full] at gj
  refine ⟨_, gj, ?_⟩
  have hincj : incr ((full δj lj).ap st).tm = true := incr_puts hinc
  have agi : Agree st ((full δj lj).ap st) Fi := ⟨fun t ht => at_other (t := t) (fun p hp e => disj_iff d2 (kj p hp) (e ▸ ht)) st, fun d hd => get_puts_other (t := d) (fun p hp e => disj_iff d4 (Lj.bx p hp) (e ▸ hd)) _⟩
  have oki : Ck ci δi ((full δj lj).ap st) := by
    intro k d hk t u hg
    obtain ⟨-, cw, cb⟩ := Li.ckw k d hk
    by_cases hkey : ∃ p ∈ δi.tm, p.1 = t
    · obtain ⟨p, hp, -, h4⟩ := get_puts_mem hkey ((full δj lj).ap st).tm
      rw [hg] at h4
      cases h4
      exact .inr (nm_data (Li.tm p hp).2)
    · have hne : ∀ p ∈ δi.tm, p.1 ≠ t := fun p hp e => hkey ⟨p, hp, e⟩
      rw [get_puts_other hne] at hg
      by_cases hj : ∃ p ∈ (full δj lj).tm, p.1 = t
      · obtain ⟨p, hp, -, h4⟩ := get_puts_mem hj st.tm
        have h5 : some u = some p.2 := hg.symm.trans h4
        cases h5
        rcases List.mem_append.1 hp with h5 | h5
        · exact .inr (nm_data (Lj.tm p h5).2)
        · cases hl : lj with
          | none => rw [hl] at h5; simp at h5
          | some q =>
            rw [hl] at h5
            simp only [Option.toList_some, List.mem_singleton] at h5
            subst h5
            by_cases hn : nm k d p.2 = true
            · exfalso
              rcases (Lj.lastw p.1 p.2 hl).2.2 k d hn with ⟨-, h6⟩ | ⟨n, h6, h7⟩ | ⟨h6, h7⟩
              · exact (hiw d cw).1 h6
              · have hnw : n ∉ Fi.wr := fun hw => (hiw n hw).1 h6
                rw [hat1 n hnw] at h7
                have h8 := Li.ok k d hk n _ (by rw [get_puts_other (t := n) (fun p hp e => hnw (e ▸ (Li.tm p hp).1))]; exact at_get h7)
                rcases h8 with h8 | h8
                · exact hnw (h8.2 ▸ cw)
                · rw [h7] at h8; cases h8
              · exact (hib d (cb h6)).2 h7
            · exact .inr (by simpa using hn)
      · have hne2 : ∀ p ∈ (full δj lj).tm, p.1 ≠ t := fun p hp e => hj ⟨p, hp, e⟩
        refine Li.ok k d hk t u ?_
        rw [get_puts_other hne]
        exact (get_puts_other hne2 _).symm.trans hg
  have gi := Li.go _ agi hincj oki
  rw [gi, fin_full, e2, e1]
  congr 1
  have c1 : puts (full δi li).tm (puts (full δj lj).tm st.tm) = puts (full δj lj).tm (puts (full δi li).tm st.tm) :=
    puts_comm (fun p hp q hq e => (hiw _ (ki p hp)).2 (e ▸ kj q hq)) _
  have c2 : puts (full δi li).bx (puts (full δj lj).bx st.bx) = puts (full δj lj).bx (puts (full δi li).bx st.bx) :=
    puts_comm (fun p hp q hq e => (hib _ (Li.bx p hp)).2 (e ▸ Lj.bx q hq)) _
  simp only [D.ap, c1, c2]

/-- Slots that are still to be filled hold no names. -/
theorem step_clean {m : MO} {F : Foot} (hf : foot m = some F) (hs : step call m st = some s1) (hinc : incr st.tm = true) {d : Nat} (hd : m.dst ≠ some d) (hc : data (st.at d) = true) : data (s1.at d) = true := by
  obtain ⟨δ, last, ck, L⟩ := step_sl hf hs hinc
  rw [L.eq, fin_full]
  by_cases hk : ∃ p ∈ (full δ last).tm, p.1 = d
  · obtain ⟨p, hp, h1, h2⟩ := get_puts_mem hk st.tm
    have : ((full δ last).ap st).at d = p.2 := by simp only [St.at, D.ap, h2]; rfl
    rw [this]
    rcases List.mem_append.1 hp with h5 | h5
    · exact (L.tm p h5).2
    · cases hl : last with
      | none => rw [hl] at h5; simp at h5
      | some q =>
        rw [hl] at h5
        simp only [Option.toList_some, List.mem_singleton] at h5
        subst h5
        exact absurd (h1 ▸ (L.lastw p.1 p.2 hl).1) hd
  · rw [at_other (t := d) fun p hp e => hk ⟨p, hp, e⟩]
    exact hc

theorem step_incr {m : MO} {F : Foot} (hf : foot m = some F) (hs : step call m st = some s1) (hinc : incr st.tm = true) : incr s1.tm = true := by
  obtain ⟨δ, last, ck, L⟩ := step_sl hf hs hinc
  rw [L.eq, fin_full]
  exact incr_puts hinc

/-- What does not meet those before it may come first. -/
theorem to_front {i : MO} {Fi : Foot} (hfi : foot i = some Fi) : ∀ (pre post : List MO) (st : St), (∀ p ∈ pre, ∃ Fp, foot p = some Fp ∧ indep Fp Fi = true) → (∀ p ∈ pre, ∀ d, p.dst = some d → data (st.at d) = true) → (pre.filterMap (·.dst)).Nodup → incr st.tm = true →
    steps call (pre ++ i :: post) st = some st1 → ∃ s, step call i st = some s ∧ steps call (pre ++ post) s = some st1
  | [], post, st, _, _, _, _, h => by
    simp only [List.nil_append, steps, Option.bind_eq_some_iff] at h
    exact h
  | p :: pre, post, st, hp, hN, hnd, hinc, h => by
    simp only [List.cons_append, steps, Option.bind_eq_some_iff] at h
    obtain ⟨sp, h1, h2⟩ := h
    obtain ⟨Fp, f1, f2⟩ := hp p (by simp)
    have hnd' : (pre.filterMap (·.dst)).Nodup ∧ ∀ d, p.dst = some d → d ∉ pre.filterMap (·.dst) := by
      cases hpd : p.dst with
      | none => rw [List.filterMap_cons_none hpd] at hnd; exact ⟨hnd, by simp⟩
      | some d => rw [List.filterMap_cons_some hpd] at hnd; exact ⟨(List.nodup_cons.1 hnd).2, fun d' e => by cases e; exact (List.nodup_cons.1 hnd).1⟩
    obtain ⟨s', g1, g2⟩ := to_front hfi pre post sp (fun q hq => hp q (List.mem_cons_of_mem _ hq)) (fun q hq d hd => step_clean f1 h1 hinc (fun e => hnd'.2 d e (List.mem_filterMap.2 ⟨q, hq, hd⟩)) (hN q (List.mem_cons_of_mem _ hq) d hd)) hnd'.1 (step_incr f1 h1 hinc) h2
    obtain ⟨s, k1, k2⟩ := swap f1 hfi f2 (hN p (by simp)) hinc h1 g1
    refine ⟨s, k1, ?_⟩
    simp only [List.cons_append, steps, k2, Option.bind_some]
    exact g2

end Go.Vi
