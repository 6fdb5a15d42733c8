/- Arguments that are bit proofs, or slices of them, opened as plain data. -/
import Derived.Test.YthebahahpkficaaDoorRpHead
import Derived.OpenShut
import Derived.ChangeArms
import Derived.Lib.SmallJoins
namespace Go.Proofs.YthebahahpkficaaDoor
open Go.RowKit Go.ChangeShapes Go.WideShapes Go.Deep
set_option linter.unusedVariables false
theorem cells_int : Tryd.prog.cellsOf 3 = 1 := by kernel_rfl
theorem cells_int2 : Tryd.prog.cellsOf 23 = 2 := by kernel_rfl
theorem cells_bp : Tryd.prog.cellsOf 25 = 7 := by kernel_rfl
theorem okWide_str {P : Program} {w : World} {r : Reach} {base : Nat} {t : TypeId} {fs : Array Field} {v : Value} (ht : P.underlying t = some (.struct fs)) (h : Value.okWide P w r base t v) : ∃ cs, v = .agg cs ∧ cs.size = P.cellsOf t := by
  simp only [Value.okWide, ht] at h
  obtain ⟨cs, h1, h2, _⟩ := h
  exact ⟨cs, h1, h2⟩
theorem trod_array2 {H : Type} {enc : TypeId × Value → H} {P : Program} {w : World} {base : Nat} {spare : Nat → Bool} {held : Bool} {t e : TypeId} {fuel : Nat} {c0 c1 : Value} {x : DataW H × List MemPlace} (ht : P.underlying t = some (.array 2 e)) (hce : P.cellsOf e = 1)
    (h : DataW.trod enc P w base spare held fuel t [c0, c1] = some x) :
    ∃ y0 y1 n, DataW.trod enc P w base spare held n e [c0] = some y0 ∧ DataW.trod enc P w base spare held n e [c1] = some y1 := by
  cases fuel with
  | zero => simp [DataW.trod] at h
  | succ n =>
    unfold DataW.trod at h
    rw [ht] at h
    have r2 : List.range 2 = [0, 1] := rfl
    simp [r2, hce] at h
    obtain ⟨_, h⟩ := h
    cases h0 : DataW.trod enc P w base spare held n e [c0] with
    | none => simp [h0] at h
    | some y0 =>
      cases h1 : DataW.trod enc P w base spare held n e [c1] with
      | none => simp [h0, h1] at h
      | some y1 => exact ⟨y0, y1, n, h0, h1⟩
def BPok (p : BP) : Prop := I64 p.c ∧ I64 p.f0 ∧ I64 p.f1 ∧ I64 p.e0 ∧ I64 p.e1 ∧ I64 p.z0 ∧ I64 p.z1
theorem i64_wf {a : Int} (h : (Lit.int .i64 a).wf = true) : I64 a := bounds_i64 h
theorem one_int {H : Type} {enc : TypeId × Value → H} {w : World} {base : Nat} {spare : Nat → Bool} {held : Bool} {fuel : Nat} {c : Value} {x : DataW H × List MemPlace} (h : DataW.trod enc Tryd.prog w base spare held fuel 3 [c] = some x) : ∃ a, c = .int .i64 a ∧ I64 a := by
  obtain ⟨a, ha, _, wa⟩ := DataW.trod_int Tryd.underlying3 h
  exact ⟨a, by simpa using ha, i64_wf wa⟩
set_option maxRecDepth 100000 in
theorem trod_bp {H : Type} {enc : TypeId × Value → H} {w : World} {base : Nat} {spare : Nat → Bool} {held : Bool} {fuel : Nat} {cs : List Value} {x : DataW H × List MemPlace} (h : DataW.trod enc Tryd.prog w base spare held fuel 25 cs = some x) : ∃ p : BP, cs = bpC p ∧ BPok p := by
  obtain ⟨y0, y1, y2, y3, n, _, hl, h0, h1, h2, h3⟩ := Joins.trod_struct4 Tryd.underlying25 h
  rw [cells_bp] at hl
  match cs, hl with
  | [c0, c1, c2, c3, c4, c5, c6], _ =>
    rw [cells_int] at h0
    rw [cells_int2] at h1 h2 h3
    obtain ⟨a0, e0, i0⟩ := one_int h0
    obtain ⟨_, _, _, g1, g2⟩ := trod_array2 Tryd.underlying23 cells_int h1
    obtain ⟨_, _, _, g3, g4⟩ := trod_array2 Tryd.underlying23 cells_int h2
    obtain ⟨_, _, _, g5, g6⟩ := trod_array2 Tryd.underlying23 cells_int h3
    obtain ⟨a1, e1, i1⟩ := one_int g1
    obtain ⟨a2, e2, i2⟩ := one_int g2
    obtain ⟨a3, e3, i3⟩ := one_int g3
    obtain ⟨a4, e4, i4⟩ := one_int g4
    obtain ⟨a5, e5, i5⟩ := one_int g5
    obtain ⟨a6, e6, i6⟩ := one_int g6
    exact ⟨⟨a0, a1, a2, a3, a4, a5, a6⟩, by rw [e0, e1, e2, e3, e4, e5, e6]; rfl, i0, i1, i2, i3, i4, i5, i6⟩
instance : Inhabited BP := ⟨zeroBP⟩
set_option maxRecDepth 100000 in
theorem open_bp {H : Type} {enc : TypeId × Value → H} {W : World} {base : Nat} {v : Value} {d : DataW H} {p : List MemPlace} (hv : Value.okWide Tryd.prog W .any base 25 v) (h : DataW.Trod enc Tryd.prog W 0 (fun _ => true) true 25 v d p) :
    ∃ q : BP, v = bpVal q ∧ BPok q := by
  obtain ⟨cs, rfl, hsz⟩ := okWide_str Tryd.underlying25 hv
  obtain ⟨fuel, hf⟩ := h
  obtain ⟨q, hq, hok⟩ := trod_bp hf
  refine ⟨q, ?_, hok⟩
  obtain ⟨cs⟩ := cs
  have hq : cs = bpC q := hq
  rw [hq]
  rfl
set_option maxRecDepth 100000 in
theorem sl_bps {H : Type} {enc : TypeId × Value → H} {W : World} {base : Nat} {v : Value} {d : DataW H} {p : List MemPlace} (hv : Value.okWide Tryd.prog W .any base 22 v) (h : DataW.Trod enc Tryd.prog W 0 (fun _ => true) true 22 v d p) :
    ∃ (A : Option Addr) (c : Nat) (l : List BP), v = .slice A l.length c ∧ Sl W W.heap.size 7 A l.length (bpsC l) ∧ (l.length ≤ c ∧ c ≤ maxLen) := by
  obtain ⟨a0, len, cap, rfl⟩ := okWide_slice Tryd.underlying22 hv
  obtain ⟨fuel, hf⟩ := h
  rcases DataW.trod_slice Tryd.underlying22 hf with ⟨hcs, _⟩ | ⟨a, len', cap', elems, rest, n, _, hcs, _, _, hlc, hcm, hel, hall, _⟩
  · simp [Value.cells] at hcs
    obtain ⟨rfl, rfl, rfl⟩ := hcs
    exact ⟨none, 0, [], rfl, Sl.nil _ 7, Nat.le_refl _, Nat.zero_le _⟩
  · simp [Value.cells] at hcs
    obtain ⟨rfl, rfl, rfl⟩ := hcs
    rw [cells_bp] at hall
    have each : ∀ i, i < len → ∃ q : BP, ∀ j, j < 7 → W.cell? (a.add (i * 7 + j)) = (bpC q)[j]? := by
      intro i hi
      have h1 := hall i hi
      rw [List.getElem?_eq_getElem (by omega)] at h1
      obtain ⟨cs, hcs, hc⟩ := Option.bind_eq_some_iff.1 h1
      obtain ⟨q, hq, _⟩ := trod_bp hc
      subst hq
      obtain ⟨_, _, hcell⟩ := World.cells?_some hcs
      refine ⟨q, fun j hj => ?_⟩
      have := hcell j hj
      rwa [Addr.add_add] at this
    obtain ⟨X, hX⟩ := choose_lt each
    have ht : ((List.range len).map X).length = len := by simp
    refine ⟨some a, cap, (List.range len).map X, by rw [ht], ?_, by rw [ht]; exact hlc, hcm⟩
    refine sl_of_row (bpsC_len _) (fun _ => by omega) ?_
    intro j u hu
    obtain ⟨hj, _⟩ := List.getElem?_eq_some_iff.1 hu
    rw [bpsC_len, ht] at hj
    have hq : j / 7 < len := by omega
    have hg := bpsC_get ((List.range len).map X) (j / 7) (j % 7) (by rw [ht]; exact hq) (Nat.mod_lt _ (by decide))
    rw [show j / 7 * 7 + j % 7 = j by omega, hu] at hg
    have hx := hX (j / 7) hq (j % 7) (Nat.mod_lt _ (by decide))
    rw [show j / 7 * 7 + j % 7 = j by omega] at hx
    rw [hx, hg]
    congr 2
    simp [List.getD, hq]
end Go.Proofs.YthebahahpkficaaDoor
