/- slices.Delete answers as the table says. -/
import Derived.Test.YtomimhedehecdaaDoorViEnvD
import Derived.Test.YtomimhedehecdaaDoorViSound4
import Derived.Test.YtomimhedehecdaaDoorShelf
import Derived.Test.YtomimhedehecdaaDoorProg
import Derived.KernelRfl
namespace Go.Vi
open Go.Proofs Go.Sort

theorem rel_int {w : World} {S : Stab} {n : Int} {k : IntKind} {r : Value} {o : List Nat} (h : Rel w S (.int k n) r o) : r = .int k n ∧ o = [] := by
  generalize hq : V.int k n = v at h
  cases h <;> cases hq
  exact ⟨rfl, rfl⟩

theorem del_entry : Entry Tryd.prog 123 := ⟨_, _, Tryd.func123, by kernel_rfl, rfl⟩

theorem del_good {gl : List (Nat × List V)} {args : List V} {r : V} (h : ViD.delP args = some r) : Vi.Good Tryd.prog gl 123 args r := by
  unfold ViD.delP at h
  split at h
  · rename_i xs i j
    split at h
    · rename_i zs hz
      split at h
      · rename_i hc
        obtain ⟨h0, hij, hj, hne⟩ := hc
        cases h
        have hxs := ViD.intRows_eq hz
        subst hxs
        intro w S rs os hargs hnd hlt hS hgl
        obtain ⟨a1, a2, a3⟩ := hargs
        simp only [List.length_cons, List.length_nil] at a1 a2
        match rs, os, a1, a2, a3 with
        | [r0, r1, r2], [o0, o1, o2], _, _, a3 =>
          have q0 := a3 0 _ _ _ rfl rfl rfl
          have q1 := a3 1 _ _ _ rfl rfl rfl
          have q2 := a3 2 _ _ _ rfl rfl rfl
          clear a3
          obtain ⟨rfl, rfl⟩ := rel_int q1
          obtain ⟨rfl, rfl⟩ := rel_int q2
          have hcap0 := fun ad n c (e : r0 = Value.slice ad n c) => Rel.slx_cap (show Rel w S _ (.slice ad n c) o0 from e ▸ q0) (by simp)
          rcases q0.slx_inv with ⟨e, -⟩ | ⟨b, off, n, c, f, C, e, rfl, rfl, hn, hx, hb, hsz, hnc, hf, hN, hr⟩
          · rw [List.map_eq_nil_iff] at e; exact absurd e hne
          · have hcap := hcap0 _ _ _ rfl
            rw [List.length_map] at hn
            have hCz : ∀ k, k < zs.length → C[off + k]? = some (.int .i64 zs[k]!) := fun k hk => by
              have h1 := hf k 0 (by simpa using hk) (by omega)
              have h2 := hr k [.int .i64 zs[k]!] 0 (.int .i64 zs[k]!) (by simp [hk]) rfl
              have h3 : f k 0 = .int .i64 zs[k]! := (rel_int h2).1
              rw [h3] at h1
              simpa using h1
            have hH : Holds (Value.int .i64) w b off zs.toArray := fun k hk => by
              have hk' : k < zs.length := by simpa using hk
              refine ⟨?_, ?_⟩
              · have := hCz k hk'
                simp only [World.cell?, hb]
                simpa using this
              · simp [World.frozen?, hb]
            have hcall := Any.slices_Delete_int Tryd.lays23 b off c i.toNat j.toNat zs w hH (by omega) hcap (by omega) (by omega)
            have e1 : (Tryd.lays23_ren.f 23) = 123 := rfl
            rw [e1, Int.toNat_of_nonneg h0, Int.toNat_of_nonneg (by omega)] at hcall
            rw [hn]
            refine hcall.mono ?_
            rintro e' w' ⟨rfl, q, rfl⟩
            generalize hnew : zs.take i.toNat ++ zs.drop j.toNat = new
            have hnl : new.length = zs.length - (j.toNat - i.toNat) := by rw [← hnew]; simp; omega
            generalize hd : (new ++ List.replicate (j.toNat - i.toNat) 0).toArray = d
            have hds : d.size = zs.length := by rw [← hd]; simp; omega
            have hoth : ∀ b', b' ≠ b → (putRow (Value.int .i64) (Sort.ahead w q) b off d).heap[b']? = w.heap[b']? := fun b' hb' => by
              have : b ≠ b' := fun e => hb' e.symm
              simp [putRow, mapBlock, Sort.ahead, Array.getElem?_modify, this]
            have hself : (putRow (Value.int .i64) (Sort.ahead w q) b off d).heap[b]? = some (.cells (putCells (Value.int .i64) off d C) e (0, 0)) := by
              simp [putRow, mapBlock, Sort.ahead, Array.getElem?_modify, hb, onCells]
            refine ⟨_, rfl, S, [b], ⟨rfl, rfl, rfl, by simp [Sort.ahead], fun b' _ hm => hoth b' (fun e => hm (by simp [e]))⟩, ?_, fun _ _ h => h, fun _ _ h => .inl h, fun b' k hs => by simpa [Sort.ahead] using hS b' k hs, ?_, by simp, fun b' hb' => ?_⟩
            · refine Keep.of_heap fun b' k hs => hoth b' fun e => ?_
              subst e
              exact hN k hs
            · refine .slo .x 1 _ b off _ c (fun k _ => .int .i64 new[k]!) (putCells (Value.int .i64) off d C) e (by simp) (by simp [hnl]) (fun k x hx => ?_) hself ?_ (by omega) hcap (fun k m hk hm => ?_) (fun h => by cases h) (fun k _ => hN k) (fun k x m y hk hm => ?_)
              · simp only [List.getElem?_map, Option.map_eq_some_iff] at hx
                obtain ⟨_, _, rfl⟩ := hx
                rfl
              · simpa [putCells] using hsz
              · simp only [List.length_map] at hk
                have hm0 : m = 0 := by omega
                subst hm0
                have hkz : k < zs.length := by omega
                simp only [Nat.mul_one, Nat.add_zero, putCells, Array.getElem?_mapIdx, hCz k hkz, Option.map_some]
                rw [if_pos ⟨by omega, by omega⟩]
                have : off + k - off = k := by omega
                rw [this, ← hd]
                simp [List.getElem?_append_left hk, hk]
              · simp only [List.getElem?_map, Option.map_eq_some_iff] at hk
                obtain ⟨z, h1, rfl⟩ := hk
                cases m with
                | zero =>
                  simp only [List.getElem?_cons_zero, Option.some.injEq] at hm
                  subst hm
                  have hlt := (List.getElem?_eq_some_iff.1 h1).1
                  have : new[k]! = z := by simp [getElem!_pos, hlt, (List.getElem?_eq_some_iff.1 h1).2]
                  rw [this]
                  exact .int _ _
                | succ m => simp at hm
            · simp only [List.mem_singleton] at hb'
              subst hb'
              exact ⟨.inr (by simp), by simp [Sort.ahead]; exact (Array.getElem?_eq_some_iff.1 hb).1⟩
      · cases h
    · cases h
  · cases h

end Go.Vi
