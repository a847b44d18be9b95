/- What the check of an operation says. -/
import Derived.Test.YtomimhedehecdaaDoorViCheck
namespace Go.Vi
variable {c : Ctx} {g : G} {st st' : St} {a : Act} {w : World} {hs : List Hv}

theorem opOK_snd {o : Oper} {m : MOp} {v : V} {call : FuncId → List V → Option V} (hok : opOK c.P c.gl o m = true) (hcall : ∀ f args r, call f args = some r → Good c.P c.gl f args r ∧ Entry c.P f) (h : FInv c g st a w)
    (hv : exec call m st = some (v, st')) : Out c o a w st' v := by
  have hg := fun f args r e => (hcall f args r e).1
  have he := fun f args r e => (hcall f args r e).2
  cases m <;> simp only [opOK, Bool.false_eq_true] at hok
  case mv x =>
    simp only [exec, Option.some.injEq, Prod.mk.injEq] at hv
    obtain ⟨rfl, rfl⟩ := hv
    split at hok
    · exact snd_mv h (.inl ‹_›) hok
    · exact snd_mv h (.inr ‹_›) hok
    · cases hok
  case pick x y z =>
    split at hok
    · simp only [Bool.and_eq_true] at hok
      simp only [exec] at hv
      split at hv
      · cases hv
        exact snd_pick h ‹_› hok.1.1.1.1.1 hok.1.1.1.1.2 hok.1.1.1.2 hok.1.1.2 hok.1.2 hok.2 ‹_›
      · cases hv
    · cases hok
  case build z ps =>
    split at hok
    · split at hok
      · rename_i place zs hp
        simp only [Bool.and_eq_true] at hok
        obtain ⟨zv, rfl, hb⟩ := placeOf_built hp
        exact snd_build h ‹_› hok.1.1 hb hok.1.2 hok.2 hv
      · cases hok
    · cases hok
  case bsl sz n z ps =>
    split at hok
    · split at hok
      · split at hok
        · split at hok
          · simp only [Bool.and_eq_true, beq_iff_eq] at hok
            have hn := hok.1.1.1.1
            subst hn
            exact snd_bsl h ‹_› ‹_› ‹_› hok.1.1.1.2 ‹_› hok.1.1.2 hok.1.2 hok.2 hv
          · cases hok
        · cases hok
      · cases hok
    · cases hok
  case load r ag sz p =>
    split at hok
    · simp only [Bool.and_eq_true] at hok
      obtain ⟨h1, h2, h3, h4⟩ := agOK_iff hok.2
      simp only [exec, Option.bind_eq_some_iff, Option.map_eq_some_iff] at hv
      obtain ⟨cs, hc, u, hu, hv⟩ := hv
      cases hv
      exact snd_load h ‹_› hok.1.1 hok.1.2 h1 h2 h3 h4 hc hu
    · cases hok
  case take r p =>
    split at hok
    · simp only [Bool.and_eq_true] at hok
      obtain ⟨h1, h2, h3, h4⟩ := agOK_iff hok.2
      exact snd_take h ‹_› hok.1.1 hok.1.2 h1 h2 h3 hv
    · cases hok
  case store r sz p x =>
    split at hok
    · simp only [Bool.and_eq_true, Option.isNone_iff_eq_none] at hok
      exact snd_store h ‹_› hok.1.1.1.1.1 hok.1.1.1.1.2 hok.1.1.1.2 hok.1.1.2 (szOK_iff hok.1.2) (fun s hs => by have := hok.2; rw [hs] at this; exact this) hv
    · cases hok
  case nilchk x =>
    split at hok
    · simp only [Bool.and_eq_true] at hok
      simp only [exec] at hv
      have hst : st' = st := by split at hv <;> simp_all
      subst hst
      refine snd_nilchk h ‹_› hok.1 hok.2 ?_
      split at hv
      · rename_i e; rw [e]; simp_all
      · rename_i e; rw [e]; simp_all
      · cases hv
    · cases hok
  case bin op x y =>
    split at hok
    · simp only [Bool.and_eq_true, decide_eq_true_eq] at hok
      obtain ⟨⟨⟨⟨rfl, h1⟩, h2⟩, h3⟩, h4⟩ := hok
      simp only [exec, Option.map_eq_some_iff] at hv
      obtain ⟨u, hu, hv⟩ := hv
      cases hv
      exact snd_bin h ‹_› h1 h2 h3 h4 hu
    · cases hok
  case eqs ag ks neg x y =>
    split at hok
    · simp only [Bool.and_eq_true, decide_eq_true_eq] at hok
      obtain ⟨⟨⟨⟨⟨⟨h0, h1⟩, h2⟩, h3⟩, h4⟩, h5⟩, h6⟩ := hok
      simp only [exec, Option.map_eq_some_iff] at hv
      obtain ⟨u, hu, hv⟩ := hv
      cases hv
      obtain ⟨h7, h8⟩ := keysOK_iff h5
      subst h0
      exact snd_eqs h ‹_› h1 h2 h3 h4 h7 h8 (fun e => by rw [if_pos e] at h6; simpa using h6) (fun e => by rw [e] at h6; simpa using h6) hu
    · cases hok
  case un op x =>
    split at hok
    · simp only [Bool.and_eq_true, decide_eq_true_eq] at hok
      obtain ⟨⟨rfl, h1⟩, h2⟩ := hok
      simp only [exec, Option.map_eq_some_iff] at hv
      obtain ⟨u, hu, hv⟩ := hv
      cases hv
      exact snd_un h ‹_› h1 h2 hu
    · cases hok
  case isnil neg x =>
    split at hok
    · rename_i op' t X Y t' ho
      simp only [Bool.and_eq_true, decide_eq_true_eq] at hok
      obtain ⟨⟨⟨⟨h0, h1⟩, h2⟩, h3⟩, h4⟩ := hok
      split at h3
      · split at h4
        · exact snd_isnil h (by rw [ho, h0]) h1 h2 ‹_› hv
        · cases h4
      · cases h3
    · cases hok
  case bytes x =>
    split at hok
    · simp only [Bool.and_eq_true] at hok
      obtain ⟨⟨⟨h1, h2⟩, h3⟩, h4⟩ := hok
      split at h3
      · split at h4
        · split at h4
          · exact snd_bytes h ‹_› h1 h2 ‹_› ‹_› ‹_› hv
          · cases h4
        · cases h4
      · cases h3
    · cases hok
  case rng x =>
    split at hok
    · simp only [Bool.and_eq_true] at hok
      obtain ⟨⟨h1, h2⟩, h3⟩ := hok
      split at h3
      · exact snd_rng h ‹_› h1 h2 ‹_› hv
      · cases h3
    · cases hok
  case ent t =>
    split at hok
    · simp only [beq_iff_eq] at hok
      subst hok
      exact snd_ent h ‹_› hv
    · cases hok
  case slarr r n sz p =>
    split at hok
    · split at hok
      · simp only [Bool.and_eq_true, beq_iff_eq] at hok
        obtain ⟨⟨⟨h1, h2⟩, rfl⟩, h4⟩ := hok
        exact snd_slarr h ‹_› h1 h2 ‹_› (szOK_iff h4) hv
      · cases hok
    · cases hok
  case conv k x =>
    split at hok
    · simp only [Bool.and_eq_true] at hok
      obtain ⟨⟨⟨h1, h2⟩, h3⟩, h4⟩ := hok
      split at h4
      · simp only [decide_eq_true_eq] at h4
        subst h4
        simp only [exec] at hv
        split at hv
        · cases hv
          exact snd_conv h ‹_› h1 h2 h3 ‹_› ‹_›
        · cases hv
      · cases h4
    · cases hok
  case mkfn f roots fs cs =>
    split at hok
    · simp only [Bool.and_eq_true, decide_eq_true_eq, List.isEmpty_iff, Array.isEmpty_iff] at hok
      obtain ⟨⟨⟨⟨rfl, rfl⟩, rfl⟩, h1⟩, h2⟩ := hok
      exact snd_mkfn h ‹_› h1 h2 hv
    · cases hok
  case mkmap =>
    split at hok
    · exact snd_mkmap h ‹_› hv
    · cases hok
  case mksl sz bytes z n =>
    split at hok
    · split at hok
      · split at hok
        · split at hok
          · simp only [Bool.and_eq_true, beq_iff_eq] at hok
            obtain ⟨⟨⟨⟨⟨h1, h2⟩, h3⟩, h4⟩, h5⟩, h6⟩ := hok
            exact snd_mksl h ‹_› h1 h2 h3 ‹_› ‹_› h4 h5 ‹_› h6 hv
          · cases hok
        · cases hok
      · cases hok
    · cases hok
  case slcs x lo hi =>
    split at hok
    · simp only [Bool.and_eq_true] at hok
      obtain ⟨⟨⟨⟨h1, h2⟩, h3⟩, h4⟩, h5⟩ := hok
      split at h5
      · exact snd_slcs h ‹_› h1 h2 h3 h4 ‹_› hv
      · cases h5
    · cases hok
  case slc sz x lo hi mx =>
    split at hok
    · simp only [Bool.and_eq_true] at hok
      obtain ⟨⟨⟨⟨h1, h2⟩, h3⟩, h4⟩, h5⟩ := hok
      split at h5
      · exact snd_slc h ‹_› h1 h2 h3 h4 ‹_› (szOK_iff h5) hv
      · cases h5
    · cases hok
  case faddr r off p =>
    split at hok
    · split at hok
      · split at hok
        · simp only [Bool.and_eq_true, beq_iff_eq] at hok
          obtain ⟨⟨⟨h1, h2⟩, h3⟩, h4⟩ := hok
          refine snd_faddr h ‹_› h1 h2 ‹_› ‹_› h3 ?_ hv
          split at h4
          · exact ⟨_, ‹_›⟩
          · cases h4
        · cases hok
      · cases hok
    · cases hok
  case fld ag sz off x =>
    split at hok
    · split at hok
      · split at hok
        · simp only [Bool.and_eq_true, beq_iff_eq] at hok
          obtain ⟨⟨⟨h1, h2⟩, h3⟩, h4⟩ := hok
          obtain ⟨k1, k2, k3, k4⟩ := agOK_iff h4
          simp only [exec] at hv
          split at hv
          · simp only [Option.bind_eq_some_iff, Option.map_eq_some_iff] at hv
            obtain ⟨cs, hc, u, hu, hv⟩ := hv
            cases hv
            exact snd_fld h ‹_› h1 h2 ‹_› ‹_› h3 k1 k2 k3 k4 ‹_› hc hu
          · cases hv
        · cases hok
      · cases hok
    · cases hok
  case iarr n sz p i =>
    split at hok
    · split at hok
      · simp only [Bool.and_eq_true, beq_iff_eq] at hok
        obtain ⟨⟨⟨⟨⟨h1, h2⟩, h3⟩, h4⟩, rfl⟩, h6⟩ := hok
        exact snd_iarr h ‹_› h1 h2 h3 h4 ‹_› (szOK_iff h6) hv
      · cases hok
    · cases hok
  case iaddr r sz x i =>
    split at hok
    · split at hok
      · simp only [Bool.and_eq_true] at hok
        obtain ⟨⟨⟨⟨h1, h2⟩, h3⟩, h4⟩, h6⟩ := hok
        exact snd_iaddr h ‹_› h1 h2 h3 h4 ‹_› (szOK_iff h6) hv
      · cases hok
    · cases hok
  case idxs x i =>
    split at hok
    · simp only [Bool.and_eq_true] at hok
      obtain ⟨⟨⟨⟨h1, h2⟩, h3⟩, h4⟩, h5⟩ := hok
      split at h5
      · simp only [exec] at hv
        split at hv
        · split at hv
          · rename_i hk
            cases hv
            exact snd_idxs h ‹_› h1 h2 h3 h4 ‹_› ‹_› ‹_› hk.1 hk.2
          · cases hv
        · cases hv
      · cases h5
    · cases hok
  case idxa ag n sz x i =>
    split at hok
    · split at hok
      · simp only [Bool.and_eq_true, beq_iff_eq] at hok
        obtain ⟨⟨⟨⟨⟨h1, h2⟩, h3⟩, h4⟩, rfl⟩, h6⟩ := hok
        obtain ⟨k1, k2, k3, k4⟩ := agOK_iff h6
        simp only [exec] at hv
        split at hv
        · split at hv
          · rename_i hk
            simp only [Option.bind_eq_some_iff, Option.map_eq_some_iff] at hv
            obtain ⟨cs, hc, u, hu, hv⟩ := hv
            cases hv
            exact snd_idxa h ‹_› h1 h2 h3 h4 ‹_› k1 k2 k3 k4 ‹_› ‹_› hk hc hu
          · cases hv
        · cases hv
      · cases hok
    · cases hok
  case look r ag ks z ok m k =>
    split at hok
    · split at hok
      · split at hok
        · split at hok
          · simp only [Bool.and_eq_true, decide_eq_true_eq] at hok
            obtain ⟨⟨⟨⟨⟨⟨rfl, h1⟩, h2⟩, h3⟩, h4⟩, h5⟩, h6⟩ := hok
            obtain ⟨k1, k2, k3, kd, k4⟩ := mapKeyOK_iff h5
            exact snd_look h ‹_› h1 h2 h3 h4 ‹_› k4 k1 k2 k3 ‹_› ‹_› h6 hv
          · cases hok
        · cases hok
      · cases hok
    · cases hok
  case mset r ag ks m k x =>
    split at hok
    · split at hok
      · simp only [Bool.and_eq_true, Option.isNone_iff_eq_none] at hok
        obtain ⟨⟨⟨⟨⟨⟨⟨h0, h1⟩, h2⟩, h3⟩, h4⟩, h5⟩, h6⟩, h7⟩ := hok
        obtain ⟨k1, k2, k3, kd, k4⟩ := mapKeyOK_iff h7
        exact snd_mset h (.inl ‹_›) h0 h1 h2 h3 h4 h5 h6 ‹_› k4 k1 k2 k3 hv
      · cases hok
    · split at hok
      · simp only [Bool.and_eq_true, Option.isNone_iff_eq_none] at hok
        obtain ⟨⟨⟨⟨⟨⟨⟨h0, h1⟩, h2⟩, h3⟩, h4⟩, h5⟩, h6⟩, h7⟩ := hok
        obtain ⟨k1, k2, k3, kd, k4⟩ := mapKeyOK_iff h7
        exact snd_mset h (.inr ‹_›) h0 h1 h2 h3 h4 h5 h6 ‹_› k4 k1 k2 k3 hv
      · cases hok
    · cases hok
  case ext i x =>
    split at hok
    · simp only [Bool.and_eq_true, beq_iff_eq] at hok
      obtain ⟨⟨rfl, h1⟩, h2⟩ := hok
      simp only [exec] at hv
      split at hv
      · simp only [Option.map_eq_some_iff] at hv
        obtain ⟨u, hu, hv⟩ := hv
        cases hv
        exact snd_ext h ‹_› h1 h2 ‹_› hu
      · cases hv
    · cases hok
  case len kd r x =>
    split at hok
    · rename_i args ts ho
      split at hok
      · rename_i X t e1 e2
        simp only [Bool.and_eq_true] at hok
        obtain ⟨⟨h1, h2⟩, h3⟩ := hok
        have ha : args = #[X] := Array.toList_inj.1 e1
        have ht : ts = #[t] := Array.toList_inj.1 e2
        subst ha ht
        split at h3
        · exact snd_len h ho h1 h2 ‹_› hv (fun _ => ⟨_, rfl⟩) (fun h => by cases h) (fun h => by cases h)
        · exact snd_len h ho h1 h2 ‹_› hv (fun h => by cases h) (fun _ => rfl) (fun h => by cases h)
        · exact snd_len h ho h1 h2 ‹_› hv (fun h => by cases h) (fun h => by cases h) (fun _ => ⟨_, _, rfl⟩)
        · cases h3
      · cases hok
    · cases hok
  case app sz bytes x y =>
    split at hok
    · rename_i args ts ho
      split at hok
      · rename_i X Y t t' e1 e2
        split at hok
        · split at hok
          · split at hok
            · simp only [Bool.and_eq_true, beq_iff_eq] at hok
              obtain ⟨⟨⟨⟨⟨⟨rfl, h1⟩, h2⟩, h3⟩, h4⟩, h5⟩, h6⟩ := hok
              have ha : args = #[X, Y] := Array.toList_inj.1 e1
              have ht : ts = #[t, t] := Array.toList_inj.1 e2
              subst ha ht
              exact snd_app h ho h1 h2 h3 ‹_› ‹_› h4 h5 ‹_› h6 hv
            · cases hok
          · cases hok
        · cases hok
      · cases hok
    · cases hok
  case mx big xs =>
    split at hok
    · rename_i b args ts ho
      simp only [Bool.and_eq_true, decide_eq_true_eq] at hok
      obtain ⟨⟨rfl, h1⟩, h2⟩ := hok
      exact snd_mx h ho h1 h2 hv
    · cases hok
  case call f xs =>
    split at hok
    · simp only [Bool.and_eq_true, beq_iff_eq] at hok
      obtain ⟨⟨rfl, h1⟩, h2⟩ := hok
      have hent : Entry c.P f := by
        simp only [exec] at hv
        split at hv
        · simp only [Option.map_eq_some_iff] at hv
          obtain ⟨r, hr, _⟩ := hv
          exact he _ _ _ hr
        · cases hv
      exact snd_call h ‹_› h1 h2 hent hg hv
    · cases hok
  case callv f xs =>
    split at hok
    · simp only [Bool.and_eq_true] at hok
      obtain ⟨⟨⟨h1, h2⟩, h3⟩, h4⟩ := hok
      exact snd_callv h ‹_› h1 h2 h3 h4 he hg hv
    · cases hok

end Go.Vi
