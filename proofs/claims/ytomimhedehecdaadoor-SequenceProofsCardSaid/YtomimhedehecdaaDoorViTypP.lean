/- The types of plans, states and faults: what has their form. -/
import Derived.Test.YtomimhedehecdaaDoorViTypI
import Derived.Test.YtomimhedehecdaaDoorViGPlanB
namespace Go.ViD
open Go.Vi Go.Proofs

def All2 : List TypeId → List (List V) → Prop
  | [], [] => True
  | t :: ts, p :: ps => WT Tryd.prog t p ∧ All2 ts ps
  | _, _ => False

theorem all2_cons {t : TypeId} {ts : List TypeId} {ps : List (List V)} (h : All2 (t :: ts) ps) : ∃ p ps', ps = p :: ps' ∧ WT Tryd.prog t p ∧ All2 ts ps' := by
  match ps, h with
  | p :: ps, h => exact ⟨p, ps, rfl, h.1, h.2⟩

theorem all2_nil {ps : List (List V)} (h : All2 [] ps) : ps = [] := by
  match ps, h with
  | [], _ => rfl

theorem all2_mk : ∀ (fs : List Field) (ps : List (List V)), ps.length = fs.length → (∀ (i : Nat) (f : Field) (y : List V), fs[i]? = some f → ps[i]? = some y → WT Tryd.prog f.type y) → All2 (fs.map (·.type)) ps
  | [], [], _, _ => trivial
  | f :: fs, p :: ps, hl, h => ⟨h 0 f p rfl rfl, all2_mk fs ps (by simpa using hl) fun i f y hf hy => h (i + 1) f y (by simpa using hf) (by simpa using hy)⟩
  | [], _ :: _, hl, _ => by simp at hl
  | _ :: _, [], hl, _ => by simp at hl

theorem t_structL {t : TypeId} {fs : Array Field} {x : List V} {ts : List TypeId} (hu : Tryd.prog.underlying t = some (.struct fs)) (hf : fs.toList.map (·.type) = ts) (h : WT Tryd.prog t x) :
    ∃ ps : List (List V), x = ps.flatten ∧ All2 ts ps := by
  obtain ⟨ps, rfl, hl, hp⟩ := wt_struct hu h
  refine ⟨ps, rfl, hf ▸ all2_mk fs.toList ps (by simpa using hl) fun i f y h1 h2 => hp i f y (by simpa using h1) h2⟩

theorem t_bool {x : List V} (h : WT Tryd.prog 4 x) : ∃ b, x = [.bool b] := wt_bool Tryd.underlying4 h

theorem t_str {x : List V} (h : WT Tryd.prog 9 x) : ∃ s, x = [.str s] := by
  obtain ⟨s, rfl, -⟩ := wt_str Tryd.underlying9 h
  exact ⟨s, rfl⟩

theorem c9 : Tryd.prog.cellsOf 9 = 1 := by kernel_rfl
theorem c42 : Tryd.prog.cellsOf 42 = 14 := by kernel_rfl

theorem t_strs {x : List V} (h : WT Tryd.prog 22 x) : ∃ l : List ByteArray, x = [.sl .s 1 (strs l)] := by
  obtain ⟨xs, rfl, -, hx⟩ := wt_sl Tryd.underlying22 h
  obtain ⟨l, rfl, -⟩ := forms (f := fun s => [V.str s]) (Q := fun _ => True) fun y hy => by
    obtain ⟨n, rfl⟩ := t_str (hx y hy)
    exact ⟨n, rfl, trivial⟩
  exact ⟨l, by rw [c9]⟩

theorem t_step {x : List V} (hx : WT Tryd.prog 42 x) : ∃ s : Step, x = cStep s := by
  obtain ⟨ps, rfl, h⟩ := t_structL Tryd.underlying42 rfl hx
  clear hx
  obtain ⟨p0, ps, rfl, h0, h⟩ := all2_cons h
  obtain ⟨p1, ps, rfl, h1, h⟩ := all2_cons h
  obtain ⟨p2, ps, rfl, h2, h⟩ := all2_cons h
  obtain ⟨p3, ps, rfl, h3, h⟩ := all2_cons h
  obtain ⟨p4, ps, rfl, h4, h⟩ := all2_cons h
  obtain ⟨p5, ps, rfl, h5, h⟩ := all2_cons h
  obtain ⟨p6, ps, rfl, h6, h⟩ := all2_cons h
  obtain ⟨p7, ps, rfl, h7, h⟩ := all2_cons h
  obtain ⟨p8, ps, rfl, h8, h⟩ := all2_cons h
  obtain ⟨p9, ps, rfl, h9, h⟩ := all2_cons h
  obtain ⟨p10, ps, rfl, h10, h⟩ := all2_cons h
  obtain ⟨p11, ps, rfl, h11, h⟩ := all2_cons h
  obtain ⟨p12, ps, rfl, h12, h⟩ := all2_cons h
  obtain ⟨p13, ps, rfl, h13, h⟩ := all2_cons h
  obtain rfl := all2_nil h
  obtain ⟨v0, rfl⟩ := t_str h0
  obtain ⟨v1, rfl⟩ := t_bool h1
  obtain ⟨v2, rfl⟩ := t_int h2
  obtain ⟨v3, rfl⟩ := t_int h3
  obtain ⟨v4, rfl⟩ := t_int h4
  obtain ⟨v5, rfl⟩ := t_int h5
  obtain ⟨v6, rfl⟩ := t_ints h6
  obtain ⟨v7, rfl⟩ := t_int h7
  obtain ⟨v8, rfl⟩ := t_int h8
  obtain ⟨v9, rfl⟩ := t_int h9
  obtain ⟨v10, rfl⟩ := t_int h10
  obtain ⟨v11, rfl⟩ := t_int h11
  obtain ⟨v12, rfl⟩ := t_int h12
  obtain ⟨v13, rfl⟩ := t_int h13
  exact ⟨⟨v0, v1, v2, v3, v4, v5, v6, v7, v8, v9, v10, v11, v12, v13⟩, rfl⟩

theorem t_plan {x : List V} (h : WT Tryd.prog 25 x) : ∃ p : Plan, x = cPlan p := by
  obtain ⟨a, b, c, rfl, h1, h2, h3⟩ := t_struct3 Tryd.underlying25 rfl h
  obtain ⟨l, rfl⟩ := t_strs h1
  obtain ⟨n, rfl⟩ := t_int h2
  obtain ⟨xs, rfl, -, hx⟩ := wt_sl Tryd.underlying23 h3
  obtain ⟨ss, rfl, -⟩ := forms (f := cStep) (Q := fun _ => True) fun y hy => by
    obtain ⟨s, rfl⟩ := t_step (hx y hy)
    exact ⟨s, rfl, trivial⟩
  exact ⟨⟨l, n, ss⟩, by rw [c42]; rfl⟩

theorem t_state {x : List V} (h : WT Tryd.prog 27 x) : ∃ s : State, x = cState s := by
  obtain ⟨a, b, rfl⟩ := t_pair Tryd.underlying27 rfl h
  exact ⟨⟨a, b⟩, rfl⟩

theorem t_fault {x : List V} (h : WT Tryd.prog 38 x) : ∃ f : Fault, x = cFault f := by
  obtain ⟨p, q, rfl, h1, h2⟩ := t_struct2 Tryd.underlying38 rfl h
  obtain ⟨a, rfl⟩ := t_int h1
  obtain ⟨b, rfl⟩ := t_bool h2
  exact ⟨⟨a, b⟩, rfl⟩

end Go.ViD
