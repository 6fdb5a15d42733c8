/- The closure 'change' of OnetimeForms, over each closure that it is handed. -/
import Derived.Test.YthgkjcofmkkdcaaDoorOnLawE1
namespace Go.Proofs.YthgkjcofmkkdcaaDoor
open Go.RowKit Go.Shelf
set_option linter.unusedVariables false
set_option linter.unusedSimpArgs false
set_option maxRecDepth 100000
def ChangeEnd (m : Nat) (w0 W : World) (Sb Bb : Nat) (l : Sigs) (e : Ending) (w' : World) : Prop :=
  e = .returned (.tuple #[]) ∧ ∃ (q : Sg) (v' : Value), w'.heap[Bb]? = some (.cells #[v'] 29 (0, 0)) ∧ w'.ownsRow w0.heap.size 27 3 v' (l.length + 1) (sigsV (l ++ [q])) ∧ Below w0.heap.size w0 w' ∧ KeepT w0 W w' ∧ BadAt m w0 w' q

set_option maxHeartbeats 4000000 in
theorem change2 (m : Nat) (w0 W : World) (Sb Eb Hb Bb : Nat) (i : Int) (A : Option Addr) (n ca : Nat) (B : Option Addr) (mp cb : Nat) (fr : Nat × Nat) (vb : Value) (l : Sigs)
    (hS : W.heap[Sb]? = some (.cells #[.int .i64 i, .slice A n ca, .slice B mp cb] 27 fr))
    (hbb : W.heap[Bb]? = some (.cells #[vb] 29 (0, 0))) (hown : W.ownsRow w0.heap.size 27 3 vb l.length (sigsV l)) (hB : Below w0.heap.size w0 W) (hBb : w0.heap.size ≤ Bb) (hl : l.length ≤ 10)
    (hf : Calls Tryd.prog 22 #[.pointer (some ⟨W.heap.size, 0, none⟩), .pointer (some ⟨Sb, 0, none⟩)] (W.alloc (.cells #[.int .i64 i, .slice A n ca, .slice B mp cb] 27)) fun e w' => e = .returned (.tuple #[]) ∧ ∃ q : Sg, w'.heap[W.heap.size]? = some (.cells (sgC q) 27 (0, 0)) ∧ Below W.heap.size W w' ∧ BadAt m w0 w' q) :
    Calls Tryd.prog 21 #[.func (.func 22) #[] #[.pointer (some ⟨Sb, 0, none⟩)], .pointer (some ⟨Sb, 0, none⟩), .pointer (some ⟨Bb, 0, none⟩)] W fun e w' => ChangeEnd m w0 W Sb Bb l e w' := by
  obtain ⟨i0, hi0, hz0, hz1, hz2⟩ := info_parts info_sig
  have hSlt := (Array.getElem?_eq_some_iff.1 hS).1
  have hBlt := (Array.getElem?_eq_some_iff.1 hbb).1
  have s0 : W.cell? ⟨Sb, 0, none⟩ = some (.int .i64 i) := by rw [Lib.cell_of_heap hS]; rfl
  have s1 : W.cell? ⟨Sb, 1, none⟩ = some (.slice A n ca) := by rw [Lib.cell_of_heap hS]; rfl
  have s2 : W.cell? ⟨Sb, 2, none⟩ = some (.slice B mp cb) := by rw [Lib.cell_of_heap hS]; rfl
  have H := Lib.hid (And.intro hS (And.intro hbb hown))
  have Hf := Lib.hid hf
  clear hS hbb hown hf
  go_enter Tryd.func21, Tryd.ntmps21
  go_wp2_with fail
  refine Hf.out.mono ?_
  rintro e w1 ⟨rfl, q, hT, hB1, hbad⟩
  obtain ⟨hS, hbb, hown⟩ := H.out
  clear s0 s1 s2 Hf
  have hbb1 := (hB1.block Bb hBlt).trans hbb
  have hown1 := own_below hown hB1
  have hBw1 : Below w0.heap.size w0 w1 := hB.trans (hB1.mono hB.size)
  have b0 : w1.cell? ⟨Bb, 0, none⟩ = some vb := by rw [Lib.cell_of_heap hbb1]; rfl
  obtain ⟨T, hTe⟩ : ∃ T, T = W.heap.size := ⟨_, rfl⟩
  rw [← hTe] at hT ⊢
  have t0 : w1.cell? ⟨T, 0, none⟩ = some (.int .i64 q.i) := by rw [Lib.cell_of_heap hT]; rfl
  have t1 : w1.cell? ⟨T, 1, none⟩ = some (.slice q.A q.n q.ca) := by rw [Lib.cell_of_heap hT]; rfl
  have t2 : w1.cell? ⟨T, 2, none⟩ = some (.slice q.B q.m q.cb) := by rw [Lib.cell_of_heap hT]; rfl
  have G := Lib.hid (And.intro hT (And.intro hbad (And.intro hbb1 (And.intro hown1 hB1))))
  obtain ⟨qi, qA, qn, qca, qB, qm, qcb⟩ := q
  dsimp only at t0 t1 t2
  clear hT hbad hbb1 hown1 hS hbb hown H hTe hB1
  go_wp2_with (at_builtin; refine app_one rfl _ _ 29 rfl 27 i0 _ 3 56 Tryd.underlying29 hi0 hz0 hz1 hz2 rfl (by decide) _ _ _ rfl G.out.2.2.2.1 hBw1 [.int .i64 qi, .slice qA qn qca, .slice qB qm qcb] _ _ rfl rfl ?c1 ?c2 ?c3 ?_)
  case c1 => simp [Value.oneCell']
  case c2 => simp [maxLen]; omega
  case c3 => omega
  intro v2 w2 hown2 hB2 hk2
  obtain ⟨hT, hbad, hbb1, hown1, hB1⟩ := G.out
  have hlt1 := (Array.getElem?_eq_some_iff.1 hbb1).1
  have hneb : vb.ownBlock ≠ some Bb := own_ne3 hown1 hbb1 (by decide)
  have hbb2 := (hk2.2 Bb hlt1 hneb).trans hbb1
  have hneb2 : v2.ownBlock ≠ some Bb := own_ne3 hown2 hbb2 (by decide)
  have b2 : w2.cell? ⟨Bb, 0, none⟩ = some vb := by rw [Lib.cell_of_heap hbb2]; rfl
  have f2 : w2.frozen? ⟨Bb, 0, none⟩ = false := Lib.frozen_of_heap hbb2 0
  have hkU : KeepT w0 w1 w2 := KeepT.kept hown1 hk2
  obtain ⟨A3, c3, rfl, _⟩ := own_slice hown2
  have K := Lib.hid (And.intro hbad (And.intro hbb2 (And.intro hown2 (And.intro hB1 hkU))))
  clear hT hbad hbb1 hown1 hB1 hbb2 hown2 hkU hk2 b0 t0 t1 t2
  go_wp2
  go_end0
  obtain ⟨hbad, hbb2, hown2, hB1, hkU⟩ := K.out
  have kU := KeepT.setCell w0 w2 (j := 0) (v := .slice A3 (l.length + 1) c3) hbb2 hBb (.inr rfl)
  have hkk : KeepT w0 W _ := (KeepT.of_below hB1).trans (hkU.trans kU)
  refine ⟨rfl, ⟨qi, qA, qn, qca, qB, qm, qcb⟩, .slice A3 (l.length + 1) c3, setCell_heap hbb2, ?_, hB2.setCell hBb _, hkk, hbad.keep (hkU.trans kU)⟩
  rw [sigsV_app]
  exact own_setCell_other hown2 hneb2
set_option maxHeartbeats 4000000 in
theorem change3 (m : Nat) (w0 W : World) (Sb Eb Hb Bb : Nat) (i : Int) (A : Option Addr) (n ca : Nat) (B : Option Addr) (mp cb : Nat) (fr : Nat × Nat) (vb : Value) (l : Sigs)
    (hS : W.heap[Sb]? = some (.cells #[.int .i64 i, .slice A n ca, .slice B mp cb] 27 fr))
    (hbb : W.heap[Bb]? = some (.cells #[vb] 29 (0, 0))) (hown : W.ownsRow w0.heap.size 27 3 vb l.length (sigsV l)) (hB : Below w0.heap.size w0 W) (hBb : w0.heap.size ≤ Bb) (hl : l.length ≤ 10)
    (hf : Calls Tryd.prog 23 #[.pointer (some ⟨W.heap.size, 0, none⟩), .pointer (some ⟨Sb, 0, none⟩), .pointer (some ⟨Eb, 0, none⟩)] (W.alloc (.cells #[.int .i64 i, .slice A n ca, .slice B mp cb] 27)) fun e w' => e = .returned (.tuple #[]) ∧ ∃ q : Sg, w'.heap[W.heap.size]? = some (.cells (sgC q) 27 (0, 0)) ∧ Below W.heap.size W w' ∧ BadAt m w0 w' q) :
    Calls Tryd.prog 21 #[.func (.func 23) #[] #[.pointer (some ⟨Sb, 0, none⟩), .pointer (some ⟨Eb, 0, none⟩)], .pointer (some ⟨Sb, 0, none⟩), .pointer (some ⟨Bb, 0, none⟩)] W fun e w' => ChangeEnd m w0 W Sb Bb l e w' := by
  obtain ⟨i0, hi0, hz0, hz1, hz2⟩ := info_parts info_sig
  have hSlt := (Array.getElem?_eq_some_iff.1 hS).1
  have hBlt := (Array.getElem?_eq_some_iff.1 hbb).1
  have s0 : W.cell? ⟨Sb, 0, none⟩ = some (.int .i64 i) := by rw [Lib.cell_of_heap hS]; rfl
  have s1 : W.cell? ⟨Sb, 1, none⟩ = some (.slice A n ca) := by rw [Lib.cell_of_heap hS]; rfl
  have s2 : W.cell? ⟨Sb, 2, none⟩ = some (.slice B mp cb) := by rw [Lib.cell_of_heap hS]; rfl
  have H := Lib.hid (And.intro hS (And.intro hbb hown))
  have Hf := Lib.hid hf
  clear hS hbb hown hf
  go_enter Tryd.func21, Tryd.ntmps21
  go_wp2_with fail
  refine Hf.out.mono ?_
  rintro e w1 ⟨rfl, q, hT, hB1, hbad⟩
  obtain ⟨hS, hbb, hown⟩ := H.out
  clear s0 s1 s2 Hf
  have hbb1 := (hB1.block Bb hBlt).trans hbb
  have hown1 := own_below hown hB1
  have hBw1 : Below w0.heap.size w0 w1 := hB.trans (hB1.mono hB.size)
  have b0 : w1.cell? ⟨Bb, 0, none⟩ = some vb := by rw [Lib.cell_of_heap hbb1]; rfl
  obtain ⟨T, hTe⟩ : ∃ T, T = W.heap.size := ⟨_, rfl⟩
  rw [← hTe] at hT ⊢
  have t0 : w1.cell? ⟨T, 0, none⟩ = some (.int .i64 q.i) := by rw [Lib.cell_of_heap hT]; rfl
  have t1 : w1.cell? ⟨T, 1, none⟩ = some (.slice q.A q.n q.ca) := by rw [Lib.cell_of_heap hT]; rfl
  have t2 : w1.cell? ⟨T, 2, none⟩ = some (.slice q.B q.m q.cb) := by rw [Lib.cell_of_heap hT]; rfl
  have G := Lib.hid (And.intro hT (And.intro hbad (And.intro hbb1 (And.intro hown1 hB1))))
  obtain ⟨qi, qA, qn, qca, qB, qm, qcb⟩ := q
  dsimp only at t0 t1 t2
  clear hT hbad hbb1 hown1 hS hbb hown H hTe hB1
  go_wp2_with (at_builtin; refine app_one rfl _ _ 29 rfl 27 i0 _ 3 56 Tryd.underlying29 hi0 hz0 hz1 hz2 rfl (by decide) _ _ _ rfl G.out.2.2.2.1 hBw1 [.int .i64 qi, .slice qA qn qca, .slice qB qm qcb] _ _ rfl rfl ?c1 ?c2 ?c3 ?_)
  case c1 => simp [Value.oneCell']
  case c2 => simp [maxLen]; omega
  case c3 => omega
  intro v2 w2 hown2 hB2 hk2
  obtain ⟨hT, hbad, hbb1, hown1, hB1⟩ := G.out
  have hlt1 := (Array.getElem?_eq_some_iff.1 hbb1).1
  have hneb : vb.ownBlock ≠ some Bb := own_ne3 hown1 hbb1 (by decide)
  have hbb2 := (hk2.2 Bb hlt1 hneb).trans hbb1
  have hneb2 : v2.ownBlock ≠ some Bb := own_ne3 hown2 hbb2 (by decide)
  have b2 : w2.cell? ⟨Bb, 0, none⟩ = some vb := by rw [Lib.cell_of_heap hbb2]; rfl
  have f2 : w2.frozen? ⟨Bb, 0, none⟩ = false := Lib.frozen_of_heap hbb2 0
  have hkU : KeepT w0 w1 w2 := KeepT.kept hown1 hk2
  obtain ⟨A3, c3, rfl, _⟩ := own_slice hown2
  have K := Lib.hid (And.intro hbad (And.intro hbb2 (And.intro hown2 (And.intro hB1 hkU))))
  clear hT hbad hbb1 hown1 hB1 hbb2 hown2 hkU hk2 b0 t0 t1 t2
  go_wp2
  go_end0
  obtain ⟨hbad, hbb2, hown2, hB1, hkU⟩ := K.out
  have kU := KeepT.setCell w0 w2 (j := 0) (v := .slice A3 (l.length + 1) c3) hbb2 hBb (.inr rfl)
  have hkk : KeepT w0 W _ := (KeepT.of_below hB1).trans (hkU.trans kU)
  refine ⟨rfl, ⟨qi, qA, qn, qca, qB, qm, qcb⟩, .slice A3 (l.length + 1) c3, setCell_heap hbb2, ?_, hB2.setCell hBb _, hkk, hbad.keep (hkU.trans kU)⟩
  rw [sigsV_app]
  exact own_setCell_other hown2 hneb2
set_option maxHeartbeats 4000000 in
theorem change4 (m : Nat) (w0 W : World) (Sb Eb Hb Bb : Nat) (i : Int) (A : Option Addr) (n ca : Nat) (B : Option Addr) (mp cb : Nat) (fr : Nat × Nat) (vb : Value) (l : Sigs)
    (hS : W.heap[Sb]? = some (.cells #[.int .i64 i, .slice A n ca, .slice B mp cb] 27 fr))
    (hbb : W.heap[Bb]? = some (.cells #[vb] 29 (0, 0))) (hown : W.ownsRow w0.heap.size 27 3 vb l.length (sigsV l)) (hB : Below w0.heap.size w0 W) (hBb : w0.heap.size ≤ Bb) (hl : l.length ≤ 10)
    (hf : Calls Tryd.prog 24 #[.pointer (some ⟨W.heap.size, 0, none⟩), .pointer (some ⟨Sb, 0, none⟩), .pointer (some ⟨Eb, 0, none⟩)] (W.alloc (.cells #[.int .i64 i, .slice A n ca, .slice B mp cb] 27)) fun e w' => e = .returned (.tuple #[]) ∧ ∃ q : Sg, w'.heap[W.heap.size]? = some (.cells (sgC q) 27 (0, 0)) ∧ Below W.heap.size W w' ∧ BadAt m w0 w' q) :
    Calls Tryd.prog 21 #[.func (.func 24) #[] #[.pointer (some ⟨Sb, 0, none⟩), .pointer (some ⟨Eb, 0, none⟩)], .pointer (some ⟨Sb, 0, none⟩), .pointer (some ⟨Bb, 0, none⟩)] W fun e w' => ChangeEnd m w0 W Sb Bb l e w' := by
  obtain ⟨i0, hi0, hz0, hz1, hz2⟩ := info_parts info_sig
  have hSlt := (Array.getElem?_eq_some_iff.1 hS).1
  have hBlt := (Array.getElem?_eq_some_iff.1 hbb).1
  have s0 : W.cell? ⟨Sb, 0, none⟩ = some (.int .i64 i) := by rw [Lib.cell_of_heap hS]; rfl
  have s1 : W.cell? ⟨Sb, 1, none⟩ = some (.slice A n ca) := by rw [Lib.cell_of_heap hS]; rfl
  have s2 : W.cell? ⟨Sb, 2, none⟩ = some (.slice B mp cb) := by rw [Lib.cell_of_heap hS]; rfl
  have H := Lib.hid (And.intro hS (And.intro hbb hown))
  have Hf := Lib.hid hf
  clear hS hbb hown hf
  go_enter Tryd.func21, Tryd.ntmps21
  go_wp2_with fail
  refine Hf.out.mono ?_
  rintro e w1 ⟨rfl, q, hT, hB1, hbad⟩
  obtain ⟨hS, hbb, hown⟩ := H.out
  clear s0 s1 s2 Hf
  have hbb1 := (hB1.block Bb hBlt).trans hbb
  have hown1 := own_below hown hB1
  have hBw1 : Below w0.heap.size w0 w1 := hB.trans (hB1.mono hB.size)
  have b0 : w1.cell? ⟨Bb, 0, none⟩ = some vb := by rw [Lib.cell_of_heap hbb1]; rfl
  obtain ⟨T, hTe⟩ : ∃ T, T = W.heap.size := ⟨_, rfl⟩
  rw [← hTe] at hT ⊢
  have t0 : w1.cell? ⟨T, 0, none⟩ = some (.int .i64 q.i) := by rw [Lib.cell_of_heap hT]; rfl
  have t1 : w1.cell? ⟨T, 1, none⟩ = some (.slice q.A q.n q.ca) := by rw [Lib.cell_of_heap hT]; rfl
  have t2 : w1.cell? ⟨T, 2, none⟩ = some (.slice q.B q.m q.cb) := by rw [Lib.cell_of_heap hT]; rfl
  have G := Lib.hid (And.intro hT (And.intro hbad (And.intro hbb1 (And.intro hown1 hB1))))
  obtain ⟨qi, qA, qn, qca, qB, qm, qcb⟩ := q
  dsimp only at t0 t1 t2
  clear hT hbad hbb1 hown1 hS hbb hown H hTe hB1
  go_wp2_with (at_builtin; refine app_one rfl _ _ 29 rfl 27 i0 _ 3 56 Tryd.underlying29 hi0 hz0 hz1 hz2 rfl (by decide) _ _ _ rfl G.out.2.2.2.1 hBw1 [.int .i64 qi, .slice qA qn qca, .slice qB qm qcb] _ _ rfl rfl ?c1 ?c2 ?c3 ?_)
  case c1 => simp [Value.oneCell']
  case c2 => simp [maxLen]; omega
  case c3 => omega
  intro v2 w2 hown2 hB2 hk2
  obtain ⟨hT, hbad, hbb1, hown1, hB1⟩ := G.out
  have hlt1 := (Array.getElem?_eq_some_iff.1 hbb1).1
  have hneb : vb.ownBlock ≠ some Bb := own_ne3 hown1 hbb1 (by decide)
  have hbb2 := (hk2.2 Bb hlt1 hneb).trans hbb1
  have hneb2 : v2.ownBlock ≠ some Bb := own_ne3 hown2 hbb2 (by decide)
  have b2 : w2.cell? ⟨Bb, 0, none⟩ = some vb := by rw [Lib.cell_of_heap hbb2]; rfl
  have f2 : w2.frozen? ⟨Bb, 0, none⟩ = false := Lib.frozen_of_heap hbb2 0
  have hkU : KeepT w0 w1 w2 := KeepT.kept hown1 hk2
  obtain ⟨A3, c3, rfl, _⟩ := own_slice hown2
  have K := Lib.hid (And.intro hbad (And.intro hbb2 (And.intro hown2 (And.intro hB1 hkU))))
  clear hT hbad hbb1 hown1 hB1 hbb2 hown2 hkU hk2 b0 t0 t1 t2
  go_wp2
  go_end0
  obtain ⟨hbad, hbb2, hown2, hB1, hkU⟩ := K.out
  have kU := KeepT.setCell w0 w2 (j := 0) (v := .slice A3 (l.length + 1) c3) hbb2 hBb (.inr rfl)
  have hkk : KeepT w0 W _ := (KeepT.of_below hB1).trans (hkU.trans kU)
  refine ⟨rfl, ⟨qi, qA, qn, qca, qB, qm, qcb⟩, .slice A3 (l.length + 1) c3, setCell_heap hbb2, ?_, hB2.setCell hBb _, hkk, hbad.keep (hkU.trans kU)⟩
  rw [sigsV_app]
  exact own_setCell_other hown2 hneb2
set_option maxHeartbeats 4000000 in
theorem change5 (m : Nat) (w0 W : World) (Sb Eb Hb Bb : Nat) (i : Int) (A : Option Addr) (n ca : Nat) (B : Option Addr) (mp cb : Nat) (fr : Nat × Nat) (vb : Value) (l : Sigs)
    (hS : W.heap[Sb]? = some (.cells #[.int .i64 i, .slice A n ca, .slice B mp cb] 27 fr))
    (hbb : W.heap[Bb]? = some (.cells #[vb] 29 (0, 0))) (hown : W.ownsRow w0.heap.size 27 3 vb l.length (sigsV l)) (hB : Below w0.heap.size w0 W) (hBb : w0.heap.size ≤ Bb) (hl : l.length ≤ 10)
    (hf : Calls Tryd.prog 25 #[.pointer (some ⟨W.heap.size, 0, none⟩)] (W.alloc (.cells #[.int .i64 i, .slice A n ca, .slice B mp cb] 27)) fun e w' => e = .returned (.tuple #[]) ∧ ∃ q : Sg, w'.heap[W.heap.size]? = some (.cells (sgC q) 27 (0, 0)) ∧ Below W.heap.size W w' ∧ BadAt m w0 w' q) :
    Calls Tryd.prog 21 #[.func (.func 25) #[] #[], .pointer (some ⟨Sb, 0, none⟩), .pointer (some ⟨Bb, 0, none⟩)] W fun e w' => ChangeEnd m w0 W Sb Bb l e w' := by
  obtain ⟨i0, hi0, hz0, hz1, hz2⟩ := info_parts info_sig
  have hSlt := (Array.getElem?_eq_some_iff.1 hS).1
  have hBlt := (Array.getElem?_eq_some_iff.1 hbb).1
  have s0 : W.cell? ⟨Sb, 0, none⟩ = some (.int .i64 i) := by rw [Lib.cell_of_heap hS]; rfl
  have s1 : W.cell? ⟨Sb, 1, none⟩ = some (.slice A n ca) := by rw [Lib.cell_of_heap hS]; rfl
  have s2 : W.cell? ⟨Sb, 2, none⟩ = some (.slice B mp cb) := by rw [Lib.cell_of_heap hS]; rfl
  have H := Lib.hid (And.intro hS (And.intro hbb hown))
  have Hf := Lib.hid hf
  clear hS hbb hown hf
  go_enter Tryd.func21, Tryd.ntmps21
  go_wp2_with fail
  refine Hf.out.mono ?_
  rintro e w1 ⟨rfl, q, hT, hB1, hbad⟩
  obtain ⟨hS, hbb, hown⟩ := H.out
  clear s0 s1 s2 Hf
  have hbb1 := (hB1.block Bb hBlt).trans hbb
  have hown1 := own_below hown hB1
  have hBw1 : Below w0.heap.size w0 w1 := hB.trans (hB1.mono hB.size)
  have b0 : w1.cell? ⟨Bb, 0, none⟩ = some vb := by rw [Lib.cell_of_heap hbb1]; rfl
  obtain ⟨T, hTe⟩ : ∃ T, T = W.heap.size := ⟨_, rfl⟩
  rw [← hTe] at hT ⊢
  have t0 : w1.cell? ⟨T, 0, none⟩ = some (.int .i64 q.i) := by rw [Lib.cell_of_heap hT]; rfl
  have t1 : w1.cell? ⟨T, 1, none⟩ = some (.slice q.A q.n q.ca) := by rw [Lib.cell_of_heap hT]; rfl
  have t2 : w1.cell? ⟨T, 2, none⟩ = some (.slice q.B q.m q.cb) := by rw [Lib.cell_of_heap hT]; rfl
  have G := Lib.hid (And.intro hT (And.intro hbad (And.intro hbb1 (And.intro hown1 hB1))))
  obtain ⟨qi, qA, qn, qca, qB, qm, qcb⟩ := q
  dsimp only at t0 t1 t2
  clear hT hbad hbb1 hown1 hS hbb hown H hTe hB1
  go_wp2_with (at_builtin; refine app_one rfl _ _ 29 rfl 27 i0 _ 3 56 Tryd.underlying29 hi0 hz0 hz1 hz2 rfl (by decide) _ _ _ rfl G.out.2.2.2.1 hBw1 [.int .i64 qi, .slice qA qn qca, .slice qB qm qcb] _ _ rfl rfl ?c1 ?c2 ?c3 ?_)
  case c1 => simp [Value.oneCell']
  case c2 => simp [maxLen]; omega
  case c3 => omega
  intro v2 w2 hown2 hB2 hk2
  obtain ⟨hT, hbad, hbb1, hown1, hB1⟩ := G.out
  have hlt1 := (Array.getElem?_eq_some_iff.1 hbb1).1
  have hneb : vb.ownBlock ≠ some Bb := own_ne3 hown1 hbb1 (by decide)
  have hbb2 := (hk2.2 Bb hlt1 hneb).trans hbb1
  have hneb2 : v2.ownBlock ≠ some Bb := own_ne3 hown2 hbb2 (by decide)
  have b2 : w2.cell? ⟨Bb, 0, none⟩ = some vb := by rw [Lib.cell_of_heap hbb2]; rfl
  have f2 : w2.frozen? ⟨Bb, 0, none⟩ = false := Lib.frozen_of_heap hbb2 0
  have hkU : KeepT w0 w1 w2 := KeepT.kept hown1 hk2
  obtain ⟨A3, c3, rfl, _⟩ := own_slice hown2
  have K := Lib.hid (And.intro hbad (And.intro hbb2 (And.intro hown2 (And.intro hB1 hkU))))
  clear hT hbad hbb1 hown1 hB1 hbb2 hown2 hkU hk2 b0 t0 t1 t2
  go_wp2
  go_end0
  obtain ⟨hbad, hbb2, hown2, hB1, hkU⟩ := K.out
  have kU := KeepT.setCell w0 w2 (j := 0) (v := .slice A3 (l.length + 1) c3) hbb2 hBb (.inr rfl)
  have hkk : KeepT w0 W _ := (KeepT.of_below hB1).trans (hkU.trans kU)
  refine ⟨rfl, ⟨qi, qA, qn, qca, qB, qm, qcb⟩, .slice A3 (l.length + 1) c3, setCell_heap hbb2, ?_, hB2.setCell hBb _, hkk, hbad.keep (hkU.trans kU)⟩
  rw [sigsV_app]
  exact own_setCell_other hown2 hneb2
set_option maxHeartbeats 4000000 in
theorem change6 (m : Nat) (w0 W : World) (Sb Eb Hb Bb : Nat) (i : Int) (A : Option Addr) (n ca : Nat) (B : Option Addr) (mp cb : Nat) (fr : Nat × Nat) (vb : Value) (l : Sigs)
    (hS : W.heap[Sb]? = some (.cells #[.int .i64 i, .slice A n ca, .slice B mp cb] 27 fr))
    (hbb : W.heap[Bb]? = some (.cells #[vb] 29 (0, 0))) (hown : W.ownsRow w0.heap.size 27 3 vb l.length (sigsV l)) (hB : Below w0.heap.size w0 W) (hBb : w0.heap.size ≤ Bb) (hl : l.length ≤ 10)
    (hf : Calls Tryd.prog 26 #[.pointer (some ⟨W.heap.size, 0, none⟩), .pointer (some ⟨Hb, 0, none⟩)] (W.alloc (.cells #[.int .i64 i, .slice A n ca, .slice B mp cb] 27)) fun e w' => e = .returned (.tuple #[]) ∧ ∃ q : Sg, w'.heap[W.heap.size]? = some (.cells (sgC q) 27 (0, 0)) ∧ Below W.heap.size W w' ∧ BadAt m w0 w' q) :
    Calls Tryd.prog 21 #[.func (.func 26) #[] #[.pointer (some ⟨Hb, 0, none⟩)], .pointer (some ⟨Sb, 0, none⟩), .pointer (some ⟨Bb, 0, none⟩)] W fun e w' => ChangeEnd m w0 W Sb Bb l e w' := by
  obtain ⟨i0, hi0, hz0, hz1, hz2⟩ := info_parts info_sig
  have hSlt := (Array.getElem?_eq_some_iff.1 hS).1
  have hBlt := (Array.getElem?_eq_some_iff.1 hbb).1
  have s0 : W.cell? ⟨Sb, 0, none⟩ = some (.int .i64 i) := by rw [Lib.cell_of_heap hS]; rfl
  have s1 : W.cell? ⟨Sb, 1, none⟩ = some (.slice A n ca) := by rw [Lib.cell_of_heap hS]; rfl
  have s2 : W.cell? ⟨Sb, 2, none⟩ = some (.slice B mp cb) := by rw [Lib.cell_of_heap hS]; rfl
  have H := Lib.hid (And.intro hS (And.intro hbb hown))
  have Hf := Lib.hid hf
  clear hS hbb hown hf
  go_enter Tryd.func21, Tryd.ntmps21
  go_wp2_with fail
  refine Hf.out.mono ?_
  rintro e w1 ⟨rfl, q, hT, hB1, hbad⟩
  obtain ⟨hS, hbb, hown⟩ := H.out
  clear s0 s1 s2 Hf
  have hbb1 := (hB1.block Bb hBlt).trans hbb
  have hown1 := own_below hown hB1
  have hBw1 : Below w0.heap.size w0 w1 := hB.trans (hB1.mono hB.size)
  have b0 : w1.cell? ⟨Bb, 0, none⟩ = some vb := by rw [Lib.cell_of_heap hbb1]; rfl
  obtain ⟨T, hTe⟩ : ∃ T, T = W.heap.size := ⟨_, rfl⟩
  rw [← hTe] at hT ⊢
  have t0 : w1.cell? ⟨T, 0, none⟩ = some (.int .i64 q.i) := by rw [Lib.cell_of_heap hT]; rfl
  have t1 : w1.cell? ⟨T, 1, none⟩ = some (.slice q.A q.n q.ca) := by rw [Lib.cell_of_heap hT]; rfl
  have t2 : w1.cell? ⟨T, 2, none⟩ = some (.slice q.B q.m q.cb) := by rw [Lib.cell_of_heap hT]; rfl
  have G := Lib.hid (And.intro hT (And.intro hbad (And.intro hbb1 (And.intro hown1 hB1))))
  obtain ⟨qi, qA, qn, qca, qB, qm, qcb⟩ := q
  dsimp only at t0 t1 t2
  clear hT hbad hbb1 hown1 hS hbb hown H hTe hB1
  go_wp2_with (at_builtin; refine app_one rfl _ _ 29 rfl 27 i0 _ 3 56 Tryd.underlying29 hi0 hz0 hz1 hz2 rfl (by decide) _ _ _ rfl G.out.2.2.2.1 hBw1 [.int .i64 qi, .slice qA qn qca, .slice qB qm qcb] _ _ rfl rfl ?c1 ?c2 ?c3 ?_)
  case c1 => simp [Value.oneCell']
  case c2 => simp [maxLen]; omega
  case c3 => omega
  intro v2 w2 hown2 hB2 hk2
  obtain ⟨hT, hbad, hbb1, hown1, hB1⟩ := G.out
  have hlt1 := (Array.getElem?_eq_some_iff.1 hbb1).1
  have hneb : vb.ownBlock ≠ some Bb := own_ne3 hown1 hbb1 (by decide)
  have hbb2 := (hk2.2 Bb hlt1 hneb).trans hbb1
  have hneb2 : v2.ownBlock ≠ some Bb := own_ne3 hown2 hbb2 (by decide)
  have b2 : w2.cell? ⟨Bb, 0, none⟩ = some vb := by rw [Lib.cell_of_heap hbb2]; rfl
  have f2 : w2.frozen? ⟨Bb, 0, none⟩ = false := Lib.frozen_of_heap hbb2 0
  have hkU : KeepT w0 w1 w2 := KeepT.kept hown1 hk2
  obtain ⟨A3, c3, rfl, _⟩ := own_slice hown2
  have K := Lib.hid (And.intro hbad (And.intro hbb2 (And.intro hown2 (And.intro hB1 hkU))))
  clear hT hbad hbb1 hown1 hB1 hbb2 hown2 hkU hk2 b0 t0 t1 t2
  go_wp2
  go_end0
  obtain ⟨hbad, hbb2, hown2, hB1, hkU⟩ := K.out
  have kU := KeepT.setCell w0 w2 (j := 0) (v := .slice A3 (l.length + 1) c3) hbb2 hBb (.inr rfl)
  have hkk : KeepT w0 W _ := (KeepT.of_below hB1).trans (hkU.trans kU)
  refine ⟨rfl, ⟨qi, qA, qn, qca, qB, qm, qcb⟩, .slice A3 (l.length + 1) c3, setCell_heap hbb2, ?_, hB2.setCell hBb _, hkk, hbad.keep (hkU.trans kU)⟩
  rw [sigsV_app]
  exact own_setCell_other hown2 hneb2
set_option maxHeartbeats 4000000 in
theorem change7 (m : Nat) (w0 W : World) (Sb Eb Hb Bb : Nat) (i : Int) (A : Option Addr) (n ca : Nat) (B : Option Addr) (mp cb : Nat) (fr : Nat × Nat) (vb : Value) (l : Sigs)
    (hS : W.heap[Sb]? = some (.cells #[.int .i64 i, .slice A n ca, .slice B mp cb] 27 fr))
    (hbb : W.heap[Bb]? = some (.cells #[vb] 29 (0, 0))) (hown : W.ownsRow w0.heap.size 27 3 vb l.length (sigsV l)) (hB : Below w0.heap.size w0 W) (hBb : w0.heap.size ≤ Bb) (hl : l.length ≤ 10)
    (hf : Calls Tryd.prog 27 #[.pointer (some ⟨W.heap.size, 0, none⟩), .pointer (some ⟨Sb, 0, none⟩)] (W.alloc (.cells #[.int .i64 i, .slice A n ca, .slice B mp cb] 27)) fun e w' => e = .returned (.tuple #[]) ∧ ∃ q : Sg, w'.heap[W.heap.size]? = some (.cells (sgC q) 27 (0, 0)) ∧ Below W.heap.size W w' ∧ BadAt m w0 w' q) :
    Calls Tryd.prog 21 #[.func (.func 27) #[] #[.pointer (some ⟨Sb, 0, none⟩)], .pointer (some ⟨Sb, 0, none⟩), .pointer (some ⟨Bb, 0, none⟩)] W fun e w' => ChangeEnd m w0 W Sb Bb l e w' := by
  obtain ⟨i0, hi0, hz0, hz1, hz2⟩ := info_parts info_sig
  have hSlt := (Array.getElem?_eq_some_iff.1 hS).1
  have hBlt := (Array.getElem?_eq_some_iff.1 hbb).1
  have s0 : W.cell? ⟨Sb, 0, none⟩ = some (.int .i64 i) := by rw [Lib.cell_of_heap hS]; rfl
  have s1 : W.cell? ⟨Sb, 1, none⟩ = some (.slice A n ca) := by rw [Lib.cell_of_heap hS]; rfl
  have s2 : W.cell? ⟨Sb, 2, none⟩ = some (.slice B mp cb) := by rw [Lib.cell_of_heap hS]; rfl
  have H := Lib.hid (And.intro hS (And.intro hbb hown))
  have Hf := Lib.hid hf
  clear hS hbb hown hf
  go_enter Tryd.func21, Tryd.ntmps21
  go_wp2_with fail
  refine Hf.out.mono ?_
  rintro e w1 ⟨rfl, q, hT, hB1, hbad⟩
  obtain ⟨hS, hbb, hown⟩ := H.out
  clear s0 s1 s2 Hf
  have hbb1 := (hB1.block Bb hBlt).trans hbb
  have hown1 := own_below hown hB1
  have hBw1 : Below w0.heap.size w0 w1 := hB.trans (hB1.mono hB.size)
  have b0 : w1.cell? ⟨Bb, 0, none⟩ = some vb := by rw [Lib.cell_of_heap hbb1]; rfl
  obtain ⟨T, hTe⟩ : ∃ T, T = W.heap.size := ⟨_, rfl⟩
  rw [← hTe] at hT ⊢
  have t0 : w1.cell? ⟨T, 0, none⟩ = some (.int .i64 q.i) := by rw [Lib.cell_of_heap hT]; rfl
  have t1 : w1.cell? ⟨T, 1, none⟩ = some (.slice q.A q.n q.ca) := by rw [Lib.cell_of_heap hT]; rfl
  have t2 : w1.cell? ⟨T, 2, none⟩ = some (.slice q.B q.m q.cb) := by rw [Lib.cell_of_heap hT]; rfl
  have G := Lib.hid (And.intro hT (And.intro hbad (And.intro hbb1 (And.intro hown1 hB1))))
  obtain ⟨qi, qA, qn, qca, qB, qm, qcb⟩ := q
  dsimp only at t0 t1 t2
  clear hT hbad hbb1 hown1 hS hbb hown H hTe hB1
  go_wp2_with (at_builtin; refine app_one rfl _ _ 29 rfl 27 i0 _ 3 56 Tryd.underlying29 hi0 hz0 hz1 hz2 rfl (by decide) _ _ _ rfl G.out.2.2.2.1 hBw1 [.int .i64 qi, .slice qA qn qca, .slice qB qm qcb] _ _ rfl rfl ?c1 ?c2 ?c3 ?_)
  case c1 => simp [Value.oneCell']
  case c2 => simp [maxLen]; omega
  case c3 => omega
  intro v2 w2 hown2 hB2 hk2
  obtain ⟨hT, hbad, hbb1, hown1, hB1⟩ := G.out
  have hlt1 := (Array.getElem?_eq_some_iff.1 hbb1).1
  have hneb : vb.ownBlock ≠ some Bb := own_ne3 hown1 hbb1 (by decide)
  have hbb2 := (hk2.2 Bb hlt1 hneb).trans hbb1
  have hneb2 : v2.ownBlock ≠ some Bb := own_ne3 hown2 hbb2 (by decide)
  have b2 : w2.cell? ⟨Bb, 0, none⟩ = some vb := by rw [Lib.cell_of_heap hbb2]; rfl
  have f2 : w2.frozen? ⟨Bb, 0, none⟩ = false := Lib.frozen_of_heap hbb2 0
  have hkU : KeepT w0 w1 w2 := KeepT.kept hown1 hk2
  obtain ⟨A3, c3, rfl, _⟩ := own_slice hown2
  have K := Lib.hid (And.intro hbad (And.intro hbb2 (And.intro hown2 (And.intro hB1 hkU))))
  clear hT hbad hbb1 hown1 hB1 hbb2 hown2 hkU hk2 b0 t0 t1 t2
  go_wp2
  go_end0
  obtain ⟨hbad, hbb2, hown2, hB1, hkU⟩ := K.out
  have kU := KeepT.setCell w0 w2 (j := 0) (v := .slice A3 (l.length + 1) c3) hbb2 hBb (.inr rfl)
  have hkk : KeepT w0 W _ := (KeepT.of_below hB1).trans (hkU.trans kU)
  refine ⟨rfl, ⟨qi, qA, qn, qca, qB, qm, qcb⟩, .slice A3 (l.length + 1) c3, setCell_heap hbb2, ?_, hB2.setCell hBb _, hkk, hbad.keep (hkU.trans kU)⟩
  rw [sigsV_app]
  exact own_setCell_other hown2 hneb2
set_option maxHeartbeats 4000000 in
theorem change8 (m : Nat) (w0 W : World) (Sb Eb Hb Bb : Nat) (i : Int) (A : Option Addr) (n ca : Nat) (B : Option Addr) (mp cb : Nat) (fr : Nat × Nat) (vb : Value) (l : Sigs)
    (hS : W.heap[Sb]? = some (.cells #[.int .i64 i, .slice A n ca, .slice B mp cb] 27 fr))
    (hbb : W.heap[Bb]? = some (.cells #[vb] 29 (0, 0))) (hown : W.ownsRow w0.heap.size 27 3 vb l.length (sigsV l)) (hB : Below w0.heap.size w0 W) (hBb : w0.heap.size ≤ Bb) (hl : l.length ≤ 10)
    (hf : Calls Tryd.prog 28 #[.pointer (some ⟨W.heap.size, 0, none⟩), .pointer (some ⟨Sb, 0, none⟩)] (W.alloc (.cells #[.int .i64 i, .slice A n ca, .slice B mp cb] 27)) fun e w' => e = .returned (.tuple #[]) ∧ ∃ q : Sg, w'.heap[W.heap.size]? = some (.cells (sgC q) 27 (0, 0)) ∧ Below W.heap.size W w' ∧ BadAt m w0 w' q) :
    Calls Tryd.prog 21 #[.func (.func 28) #[] #[.pointer (some ⟨Sb, 0, none⟩)], .pointer (some ⟨Sb, 0, none⟩), .pointer (some ⟨Bb, 0, none⟩)] W fun e w' => ChangeEnd m w0 W Sb Bb l e w' := by
  obtain ⟨i0, hi0, hz0, hz1, hz2⟩ := info_parts info_sig
  have hSlt := (Array.getElem?_eq_some_iff.1 hS).1
  have hBlt := (Array.getElem?_eq_some_iff.1 hbb).1
  have s0 : W.cell? ⟨Sb, 0, none⟩ = some (.int .i64 i) := by rw [Lib.cell_of_heap hS]; rfl
  have s1 : W.cell? ⟨Sb, 1, none⟩ = some (.slice A n ca) := by rw [Lib.cell_of_heap hS]; rfl
  have s2 : W.cell? ⟨Sb, 2, none⟩ = some (.slice B mp cb) := by rw [Lib.cell_of_heap hS]; rfl
  have H := Lib.hid (And.intro hS (And.intro hbb hown))
  have Hf := Lib.hid hf
  clear hS hbb hown hf
  go_enter Tryd.func21, Tryd.ntmps21
  go_wp2_with fail
  refine Hf.out.mono ?_
  rintro e w1 ⟨rfl, q, hT, hB1, hbad⟩
  obtain ⟨hS, hbb, hown⟩ := H.out
  clear s0 s1 s2 Hf
  have hbb1 := (hB1.block Bb hBlt).trans hbb
  have hown1 := own_below hown hB1
  have hBw1 : Below w0.heap.size w0 w1 := hB.trans (hB1.mono hB.size)
  have b0 : w1.cell? ⟨Bb, 0, none⟩ = some vb := by rw [Lib.cell_of_heap hbb1]; rfl
  obtain ⟨T, hTe⟩ : ∃ T, T = W.heap.size := ⟨_, rfl⟩
  rw [← hTe] at hT ⊢
  have t0 : w1.cell? ⟨T, 0, none⟩ = some (.int .i64 q.i) := by rw [Lib.cell_of_heap hT]; rfl
  have t1 : w1.cell? ⟨T, 1, none⟩ = some (.slice q.A q.n q.ca) := by rw [Lib.cell_of_heap hT]; rfl
  have t2 : w1.cell? ⟨T, 2, none⟩ = some (.slice q.B q.m q.cb) := by rw [Lib.cell_of_heap hT]; rfl
  have G := Lib.hid (And.intro hT (And.intro hbad (And.intro hbb1 (And.intro hown1 hB1))))
  obtain ⟨qi, qA, qn, qca, qB, qm, qcb⟩ := q
  dsimp only at t0 t1 t2
  clear hT hbad hbb1 hown1 hS hbb hown H hTe hB1
  go_wp2_with (at_builtin; refine app_one rfl _ _ 29 rfl 27 i0 _ 3 56 Tryd.underlying29 hi0 hz0 hz1 hz2 rfl (by decide) _ _ _ rfl G.out.2.2.2.1 hBw1 [.int .i64 qi, .slice qA qn qca, .slice qB qm qcb] _ _ rfl rfl ?c1 ?c2 ?c3 ?_)
  case c1 => simp [Value.oneCell']
  case c2 => simp [maxLen]; omega
  case c3 => omega
  intro v2 w2 hown2 hB2 hk2
  obtain ⟨hT, hbad, hbb1, hown1, hB1⟩ := G.out
  have hlt1 := (Array.getElem?_eq_some_iff.1 hbb1).1
  have hneb : vb.ownBlock ≠ some Bb := own_ne3 hown1 hbb1 (by decide)
  have hbb2 := (hk2.2 Bb hlt1 hneb).trans hbb1
  have hneb2 : v2.ownBlock ≠ some Bb := own_ne3 hown2 hbb2 (by decide)
  have b2 : w2.cell? ⟨Bb, 0, none⟩ = some vb := by rw [Lib.cell_of_heap hbb2]; rfl
  have f2 : w2.frozen? ⟨Bb, 0, none⟩ = false := Lib.frozen_of_heap hbb2 0
  have hkU : KeepT w0 w1 w2 := KeepT.kept hown1 hk2
  obtain ⟨A3, c3, rfl, _⟩ := own_slice hown2
  have K := Lib.hid (And.intro hbad (And.intro hbb2 (And.intro hown2 (And.intro hB1 hkU))))
  clear hT hbad hbb1 hown1 hB1 hbb2 hown2 hkU hk2 b0 t0 t1 t2
  go_wp2
  go_end0
  obtain ⟨hbad, hbb2, hown2, hB1, hkU⟩ := K.out
  have kU := KeepT.setCell w0 w2 (j := 0) (v := .slice A3 (l.length + 1) c3) hbb2 hBb (.inr rfl)
  have hkk : KeepT w0 W _ := (KeepT.of_below hB1).trans (hkU.trans kU)
  refine ⟨rfl, ⟨qi, qA, qn, qca, qB, qm, qcb⟩, .slice A3 (l.length + 1) c3, setCell_heap hbb2, ?_, hB2.setCell hBb _, hkk, hbad.keep (hkU.trans kU)⟩
  rw [sigsV_app]
  exact own_setCell_other hown2 hneb2
end Go.Proofs.YthgkjcofmkkdcaaDoor
