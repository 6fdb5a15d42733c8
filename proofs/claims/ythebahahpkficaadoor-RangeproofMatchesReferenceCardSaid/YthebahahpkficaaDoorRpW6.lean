/- The walk of package rangeproof: sides. -/
import Derived.Test.YthebahahpkficaaDoorRpW5
import Derived.Deep.DeepCutAuto
import Derived.Laws.EntriesVeiled
namespace Go.Proofs.YthebahahpkficaaDoor
open Go.RowKit
set_option linter.unusedVariables false
/-- A variable of its own that holds a number, from block n on. -/
def Own1 (n : Nat) (W : World) (B : Nat) (v : Int) : Prop := n ≤ B ∧ B < W.heap.size ∧ W.cell? ⟨B, 0, none⟩ = some (.int .i64 v)
theorem Own1.go {n : Nat} {W W' : World} {B : Nat} {v : Int} (h : Own1 n W B v) (hb : Below W.heap.size W W') : Own1 n W' B v :=
  ⟨h.1, Nat.lt_of_lt_of_le h.2.1 hb.size, (hb.cell (p := ⟨B, 0, none⟩) h.2.1).trans h.2.2⟩
theorem Own1.far {n : Nat} {W : World} {B R : Nat} {v : Int} (h : Own1 n W B v) (hne : B ≠ R) (v0 v1 v2 v3 : Value) (o : Obj) : Own1 n (((((W.setCell ⟨R, 0, none⟩ v0).setCell ⟨R, 1, none⟩ v1).setCell ⟨R, 2, none⟩ v2).setCell ⟨R, 3, none⟩ v3).alloc o) B v := by
  have hs : ((((W.setCell ⟨R, 0, none⟩ v0).setCell ⟨R, 1, none⟩ v1).setCell ⟨R, 2, none⟩ v2).setCell ⟨R, 3, none⟩ v3).heap.size = W.heap.size := by simp [World.setCell]
  refine ⟨h.1, by rw [World.size_alloc, hs]; have := h.2.1; omega, ?_⟩
  refine (World.cell?_of_block ?_).trans h.2.2
  refine (Below.heap_alloc _ _ _ (by rw [hs]; exact h.2.1)).trans ?_
  exact (Below.heap_setCell _ _ _ _ hne).trans ((Below.heap_setCell _ _ _ _ hne).trans ((Below.heap_setCell _ _ _ _ hne).trans (Below.heap_setCell _ _ _ _ hne)))
theorem below_far {n : Nat} {w W : World} {R : Nat} (h : Below n w W) (hn : n ≤ R) (hs : n ≤ W.heap.size) (v0 v1 v2 v3 : Value) (o : Obj) : Below n w (((((W.setCell ⟨R, 0, none⟩ v0).setCell ⟨R, 1, none⟩ v1).setCell ⟨R, 2, none⟩ v2).setCell ⟨R, 3, none⟩ v3).alloc o) := by
  have hz : ((((W.setCell ⟨R, 0, none⟩ v0).setCell ⟨R, 1, none⟩ v1).setCell ⟨R, 2, none⟩ v2).setCell ⟨R, 3, none⟩ v3).heap.size = W.heap.size := by simp [World.setCell]
  exact ((((h.setCell (p := ⟨R, 0, none⟩) hn _).setCell (p := ⟨R, 1, none⟩) hn _).setCell (p := ⟨R, 2, none⟩) hn _).setCell (p := ⟨R, 3, none⟩) hn _).alloc (by rw [hz]; exact hs) _
theorem Own1.mono {n m : Nat} {W : World} {B : Nat} {v : Int} (h : Own1 n W B v) (hm : m ≤ n) : Own1 m W B v := ⟨Nat.le_trans hm h.1, h.2⟩
def ptr (B : Nat) : Value := .pointer (some ⟨B, 0, none⟩)
def Sides0 (n : Nat) (b k e z : Int) (r : Ending) (W : World) : Prop :=
  ∃ Bb Bl Bo Bk Be Bz : Nat, r = .returned (.agg #[(.func (.func 63) #[] #[.pointer (some ⟨Bk, 0, none⟩), .pointer (some ⟨Bb, 0, none⟩)]), (.func (.func 64) #[] #[.pointer (some ⟨Be, 0, none⟩), .pointer (some ⟨Bb, 0, none⟩), .pointer (some ⟨Bk, 0, none⟩), .pointer (some ⟨Bl, 0, none⟩)]), (.func (.func 61) #[] #[.pointer (some ⟨Be, 0, none⟩), .pointer (some ⟨Bo, 0, none⟩), .pointer (some ⟨Bz, 0, none⟩)]), (.func (.func 62) #[] #[.pointer (some ⟨Be, 0, none⟩), .pointer (some ⟨Bz, 0, none⟩), .pointer (some ⟨Bo, 0, none⟩)])]) ∧ Own1 n W Bb 0 ∧ Own1 n W Bl b ∧ Own1 n W Bo 1 ∧ Own1 n W Bk k ∧ Own1 n W Be e ∧ Own1 n W Bz z
set_option maxHeartbeats 8000000 in
set_option maxRecDepth 100000 in
theorem sides_0 (b n0 k e z : Int) (w : World) : Calls Tryd.prog 44 #[.int .i64 0, .int .i64 b, .agg #[.int .i64 n0, .int .i64 k, .int .i64 e, .int .i64 z]] w fun r w' => Sides0 w.heap.size b k e z r w' ∧ Below w.heap.size w w' := by
  have hmf : ∀ (fn : Fn) (first cap : Array Value) (w : World), (Instr.makeFunc fn first cap).run Tryd.prog w = .ok (.func fn first cap) w := fun _ _ _ _ => rfl
  go_enter Tryd.func44, Tryd.ntmps44
  go_wp2
  obtain ⟨w5, hw5⟩ : ∃ w5, w5 = ((((w.alloc (.cells #[.int .i64 0] 3)).alloc (.cells #[.int .i64 b] 3)).alloc (.cells #[.int .i64 n0, .int .i64 k, .int .i64 e, .int .i64 z] 52)).alloc (.cells #[.nilFunc, .nilFunc, .nilFunc, .nilFunc] 72)).alloc (.cells #[.int .i64 1] 3) := ⟨_, rfl⟩
  rw [← hw5]
  have hsz : w5.heap.size = w.heap.size + 5 := by rw [hw5]; simp
  have hB5 : Below w.heap.size w w5 := by rw [hw5]; exact bal (bal (bal (bal (bal (Below.refl _ _) _) _) _) _) _
  have c0 : w5.cell? ⟨w.heap.size, 0, none⟩ = some (.int .i64 0) := by rw [hw5]; simp [go_sem]
  have c1 : w5.cell? ⟨w.heap.size + 1, 0, none⟩ = some (.int .i64 b) := by rw [hw5]; simp [go_sem]
  have d1 : w5.cell? ⟨w.heap.size + 2, 1, none⟩ = some (.int .i64 k) := by rw [hw5]; simp [go_sem]
  have d2 : w5.cell? ⟨w.heap.size + 2, 2, none⟩ = some (.int .i64 e) := by rw [hw5]; simp [go_sem]
  have d3 : w5.cell? ⟨w.heap.size + 2, 3, none⟩ = some (.int .i64 z) := by rw [hw5]; simp [go_sem]
  have c4 : w5.cell? ⟨w.heap.size + 4, 0, none⟩ = some (.int .i64 1) := by rw [hw5]; simp [go_sem]
  have r3 : w5.heap[w.heap.size + 3]? = some (.cells #[.nilFunc, .nilFunc, .nilFunc, .nilFunc] 72) := by
    rw [hw5, show w.heap.size + 3 = (((w.alloc (.cells #[.int .i64 0] 3)).alloc (.cells #[.int .i64 b] 3)).alloc (.cells #[.int .i64 n0, .int .i64 k, .int .i64 e, .int .i64 z] 52)).heap.size by simp]
    exact (Below.heap_alloc _ _ _ (by simp)).trans (World.alloc_heap_new _ _)
  have F := Lib.hid (And.intro c0 (And.intro c1 (And.intro c4 r3)))
  have Hsz := Lib.hid hsz
  have hz1 : w.heap.size + 5 ≤ w5.heap.size := by omega
  have hz2 : w5.heap.size ≤ w.heap.size + 5 := by omega
  clear hw5 hsz c0 c1 c4 r3
  go_cut [8, 9, 10] (fun s8 s9 s10 wx => ∃ Bk Be Bz : Nat, s8 = .pointer (some ⟨Bk, 0, none⟩) ∧ s9 = .pointer (some ⟨Be, 0, none⟩) ∧ s10 = .pointer (some ⟨Bz, 0, none⟩) ∧ Own1 w5.heap.size wx Bk k ∧ Own1 w5.heap.size wx Be e ∧ Own1 w5.heap.size wx Bz z ∧ Below w5.heap.size w5 wx)
  case first =>
    have keep3 : ∀ W : World, Below w5.heap.size w5 W → W.cell? ⟨w.heap.size + 2, 1, none⟩ = some (.int .i64 k) ∧ W.cell? ⟨w.heap.size + 2, 2, none⟩ = some (.int .i64 e) ∧ W.cell? ⟨w.heap.size + 2, 3, none⟩ = some (.int .i64 z) := fun W h =>
      ⟨(h.cell (p := ⟨w.heap.size + 2, 1, none⟩) (by show w.heap.size + 2 < _; omega)).trans d1, (h.cell (p := ⟨w.heap.size + 2, 2, none⟩) (by show w.heap.size + 2 < _; omega)).trans d2, (h.cell (p := ⟨w.heap.size + 2, 3, none⟩) (by show w.heap.size + 2 < _; omega)).trans d3⟩
    go_region_held3 (fun w' => w'.cell? ⟨w.heap.size + 2, 1, none⟩ = some (.int .i64 k) ∧ w'.cell? ⟨w.heap.size + 2, 2, none⟩ = some (.int .i64 e) ∧ w'.cell? ⟨w.heap.size + 2, 3, none⟩ = some (.int .i64 z)) (exact keep3 _ (by repeat (first | exact Below.refl _ _ | refine Below.drew ?_ | (refine Below.setCell ?_ (by first | omega | (simp; done) | (simp; omega)) _) | (refine Below.alloc ?_ (by first | omega | (simp; done) | (simp; omega)) _)))) (fail)
    all_goals
      go_wp2_with fail
      go_meet
      refine ⟨_, _, _, rfl, rfl, rfl, ⟨by omega, by simp; try omega, by simp [go_sem]⟩, ⟨by omega, by simp; try omega, by simp [go_sem]⟩, ⟨by omega, by simp; try omega, by simp [go_sem]⟩, ?_⟩
      repeat (first | exact Below.refl _ _ | refine Below.drew ?_ | (refine Below.alloc ?_ (by first | omega | (simp; done) | (simp; omega)) _))
  case rest =>
    obtain ⟨Bk, Be, Bz, rfl, rfl, rfl, ok, oe, oz, hBc⟩ := hcut
    have hcs := hBc.size
    have k0 : wc.cell? ⟨w.heap.size, 0, none⟩ = some (.int .i64 0) := (hBc.cell (p := ⟨w.heap.size, 0, none⟩) (by show w.heap.size < _; omega)).trans F.out.1
    have k4 : wc.cell? ⟨w.heap.size + 1 + 1 + 1 + 1, 0, none⟩ = some (.int .i64 1) := (hBc.cell (p := ⟨w.heap.size + 4, 0, none⟩) (by show w.heap.size + 4 < _; omega)).trans F.out.2.2.1
    have r3 : wc.heap[w.heap.size + 1 + 1 + 1]? = some (.cells #[.nilFunc, .nilFunc, .nilFunc, .nilFunc] 72) := (hBc.block _ (by omega)).trans F.out.2.2.2
    have p0 : wc.cell? ⟨w.heap.size + 1 + 1 + 1, 0, none⟩ = some .nilFunc := by simp only [World.cell?, r3]; rfl
    have p1 : wc.cell? ⟨w.heap.size + 1 + 1 + 1, 1, none⟩ = some .nilFunc := by simp only [World.cell?, r3]; rfl
    have p2 : wc.cell? ⟨w.heap.size + 1 + 1 + 1, 2, none⟩ = some .nilFunc := by simp only [World.cell?, r3]; rfl
    have p3 : wc.cell? ⟨w.heap.size + 1 + 1 + 1, 3, none⟩ = some .nilFunc := by simp only [World.cell?, r3]; rfl
    have q0 : wc.frozen? ⟨w.heap.size + 1 + 1 + 1, 0, none⟩ = false := by simp [World.frozen?, r3]
    have q1 : wc.frozen? ⟨w.heap.size + 1 + 1 + 1, 1, none⟩ = false := by simp [World.frozen?, r3]
    have q2 : wc.frozen? ⟨w.heap.size + 1 + 1 + 1, 2, none⟩ = false := by simp [World.frozen?, r3]
    have q3 : wc.frozen? ⟨w.heap.size + 1 + 1 + 1, 3, none⟩ = false := by simp [World.frozen?, r3]
    have hB := bgo hB5 hBc
    have O1 : Own1 w.heap.size wc w.heap.size 0 := ⟨Nat.le_refl _, by omega, k0⟩
    have O2 : Own1 w.heap.size wc (w.heap.size + 1) b := ⟨by omega, by omega, (hBc.cell (p := ⟨w.heap.size + 1, 0, none⟩) (by show w.heap.size + 1 < _; omega)).trans F.out.2.1⟩
    have O3 : Own1 w.heap.size wc (w.heap.size + 1 + 1 + 1 + 1) 1 := ⟨by omega, by omega, k4⟩
    have O := Lib.hid (And.intro O1 (And.intro O2 (And.intro O3 (And.intro ok (And.intro oe oz)))))
    have hl4 : w.heap.size + 1 + 1 + 1 + 1 < wc.heap.size := by omega
    have hl3 : w.heap.size + 1 + 1 + 1 < wc.heap.size := by omega
    have hl0 : w.heap.size < wc.heap.size := by omega
    clear r3 O1 O2 O3 ok oe oz
    go_wp2
    obtain ⟨O1, O2, O3, O4, O5, O6⟩ := O.out
    have l4 := O4.1
    have l5 := O5.1
    have l6 := O6.1
    refine bodyPost_ret (v := .agg #[(.func (.func 63) #[] #[.pointer (some ⟨Bk, 0, none⟩), .pointer (some ⟨w.heap.size, 0, none⟩)]), (.func (.func 64) #[] #[.pointer (some ⟨Be, 0, none⟩), .pointer (some ⟨w.heap.size, 0, none⟩), .pointer (some ⟨Bk, 0, none⟩), .pointer (some ⟨w.heap.size + 1, 0, none⟩)]), (.func (.func 61) #[] #[.pointer (some ⟨Be, 0, none⟩), .pointer (some ⟨w.heap.size + 1 + 1 + 1 + 1, 0, none⟩), .pointer (some ⟨Bz, 0, none⟩)]), (.func (.func 62) #[] #[.pointer (some ⟨Be, 0, none⟩), .pointer (some ⟨Bz, 0, none⟩), .pointer (some ⟨w.heap.size + 1 + 1 + 1 + 1, 0, none⟩)])]) (by simp [results, Tryd.results44, go_sem, p0, p1, p2, p3, hl3]) rfl ⟨⟨_, _, _, _, _, _, rfl, O1.far (by omega) _ _ _ _ _, O2.far (by omega) _ _ _ _ _, O3.far (by omega) _ _ _ _ _, (O4.mono (by omega)).far (by omega) _ _ _ _ _, (O5.mono (by omega)).far (by omega) _ _ _ _ _, (O6.mono (by omega)).far (by omega) _ _ _ _ _⟩, below_far hB (by omega) hB.size _ _ _ _ _⟩
def Sides1 (n : Nat) (b k e z : Int) (r : Ending) (W : World) : Prop :=
  ∃ Bb Bl Bo Bk Be Bz : Nat, r = .returned (.agg #[(.func (.func 61) #[] #[.pointer (some ⟨Be, 0, none⟩), .pointer (some ⟨Bo, 0, none⟩), .pointer (some ⟨Bz, 0, none⟩)]), (.func (.func 62) #[] #[.pointer (some ⟨Be, 0, none⟩), .pointer (some ⟨Bz, 0, none⟩), .pointer (some ⟨Bo, 0, none⟩)]), (.func (.func 63) #[] #[.pointer (some ⟨Bk, 0, none⟩), .pointer (some ⟨Bb, 0, none⟩)]), (.func (.func 64) #[] #[.pointer (some ⟨Be, 0, none⟩), .pointer (some ⟨Bb, 0, none⟩), .pointer (some ⟨Bk, 0, none⟩), .pointer (some ⟨Bl, 0, none⟩)])]) ∧ Own1 n W Bb 1 ∧ Own1 n W Bl b ∧ Own1 n W Bo 0 ∧ Own1 n W Bk k ∧ Own1 n W Be e ∧ Own1 n W Bz z
set_option maxHeartbeats 8000000 in
set_option maxRecDepth 100000 in
theorem sides_1 (b n0 k e z : Int) (w : World) : Calls Tryd.prog 44 #[.int .i64 1, .int .i64 b, .agg #[.int .i64 n0, .int .i64 k, .int .i64 e, .int .i64 z]] w fun r w' => Sides1 w.heap.size b k e z r w' ∧ Below w.heap.size w w' := by
  have hmf : ∀ (fn : Fn) (first cap : Array Value) (w : World), (Instr.makeFunc fn first cap).run Tryd.prog w = .ok (.func fn first cap) w := fun _ _ _ _ => rfl
  go_enter Tryd.func44, Tryd.ntmps44
  go_wp2
  obtain ⟨w5, hw5⟩ : ∃ w5, w5 = ((((w.alloc (.cells #[.int .i64 1] 3)).alloc (.cells #[.int .i64 b] 3)).alloc (.cells #[.int .i64 n0, .int .i64 k, .int .i64 e, .int .i64 z] 52)).alloc (.cells #[.nilFunc, .nilFunc, .nilFunc, .nilFunc] 72)).alloc (.cells #[.int .i64 0] 3) := ⟨_, rfl⟩
  rw [← hw5]
  have hsz : w5.heap.size = w.heap.size + 5 := by rw [hw5]; simp
  have hB5 : Below w.heap.size w w5 := by rw [hw5]; exact bal (bal (bal (bal (bal (Below.refl _ _) _) _) _) _) _
  have c0 : w5.cell? ⟨w.heap.size, 0, none⟩ = some (.int .i64 1) := by rw [hw5]; simp [go_sem]
  have c1 : w5.cell? ⟨w.heap.size + 1, 0, none⟩ = some (.int .i64 b) := by rw [hw5]; simp [go_sem]
  have d1 : w5.cell? ⟨w.heap.size + 2, 1, none⟩ = some (.int .i64 k) := by rw [hw5]; simp [go_sem]
  have d2 : w5.cell? ⟨w.heap.size + 2, 2, none⟩ = some (.int .i64 e) := by rw [hw5]; simp [go_sem]
  have d3 : w5.cell? ⟨w.heap.size + 2, 3, none⟩ = some (.int .i64 z) := by rw [hw5]; simp [go_sem]
  have c4 : w5.cell? ⟨w.heap.size + 4, 0, none⟩ = some (.int .i64 0) := by rw [hw5]; simp [go_sem]
  have r3 : w5.heap[w.heap.size + 3]? = some (.cells #[.nilFunc, .nilFunc, .nilFunc, .nilFunc] 72) := by
    rw [hw5, show w.heap.size + 3 = (((w.alloc (.cells #[.int .i64 1] 3)).alloc (.cells #[.int .i64 b] 3)).alloc (.cells #[.int .i64 n0, .int .i64 k, .int .i64 e, .int .i64 z] 52)).heap.size by simp]
    exact (Below.heap_alloc _ _ _ (by simp)).trans (World.alloc_heap_new _ _)
  have F := Lib.hid (And.intro c0 (And.intro c1 (And.intro c4 r3)))
  have Hsz := Lib.hid hsz
  have hz1 : w.heap.size + 5 ≤ w5.heap.size := by omega
  have hz2 : w5.heap.size ≤ w.heap.size + 5 := by omega
  clear hw5 hsz c0 c1 c4 r3
  go_cut [8, 9, 10] (fun s8 s9 s10 wx => ∃ Bk Be Bz : Nat, s8 = .pointer (some ⟨Bk, 0, none⟩) ∧ s9 = .pointer (some ⟨Be, 0, none⟩) ∧ s10 = .pointer (some ⟨Bz, 0, none⟩) ∧ Own1 w5.heap.size wx Bk k ∧ Own1 w5.heap.size wx Be e ∧ Own1 w5.heap.size wx Bz z ∧ Below w5.heap.size w5 wx)
  case first =>
    have keep3 : ∀ W : World, Below w5.heap.size w5 W → W.cell? ⟨w.heap.size + 2, 1, none⟩ = some (.int .i64 k) ∧ W.cell? ⟨w.heap.size + 2, 2, none⟩ = some (.int .i64 e) ∧ W.cell? ⟨w.heap.size + 2, 3, none⟩ = some (.int .i64 z) := fun W h =>
      ⟨(h.cell (p := ⟨w.heap.size + 2, 1, none⟩) (by show w.heap.size + 2 < _; omega)).trans d1, (h.cell (p := ⟨w.heap.size + 2, 2, none⟩) (by show w.heap.size + 2 < _; omega)).trans d2, (h.cell (p := ⟨w.heap.size + 2, 3, none⟩) (by show w.heap.size + 2 < _; omega)).trans d3⟩
    go_region_held3 (fun w' => w'.cell? ⟨w.heap.size + 2, 1, none⟩ = some (.int .i64 k) ∧ w'.cell? ⟨w.heap.size + 2, 2, none⟩ = some (.int .i64 e) ∧ w'.cell? ⟨w.heap.size + 2, 3, none⟩ = some (.int .i64 z)) (exact keep3 _ (by repeat (first | exact Below.refl _ _ | refine Below.drew ?_ | (refine Below.setCell ?_ (by first | omega | (simp; done) | (simp; omega)) _) | (refine Below.alloc ?_ (by first | omega | (simp; done) | (simp; omega)) _)))) (fail)
    all_goals
      go_wp2_with fail
      go_meet
      refine ⟨_, _, _, rfl, rfl, rfl, ⟨by omega, by simp; try omega, by simp [go_sem]⟩, ⟨by omega, by simp; try omega, by simp [go_sem]⟩, ⟨by omega, by simp; try omega, by simp [go_sem]⟩, ?_⟩
      repeat (first | exact Below.refl _ _ | refine Below.drew ?_ | (refine Below.alloc ?_ (by first | omega | (simp; done) | (simp; omega)) _))
  case rest =>
    obtain ⟨Bk, Be, Bz, rfl, rfl, rfl, ok, oe, oz, hBc⟩ := hcut
    have hcs := hBc.size
    have k0 : wc.cell? ⟨w.heap.size, 0, none⟩ = some (.int .i64 1) := (hBc.cell (p := ⟨w.heap.size, 0, none⟩) (by show w.heap.size < _; omega)).trans F.out.1
    have k4 : wc.cell? ⟨w.heap.size + 1 + 1 + 1 + 1, 0, none⟩ = some (.int .i64 0) := (hBc.cell (p := ⟨w.heap.size + 4, 0, none⟩) (by show w.heap.size + 4 < _; omega)).trans F.out.2.2.1
    have r3 : wc.heap[w.heap.size + 1 + 1 + 1]? = some (.cells #[.nilFunc, .nilFunc, .nilFunc, .nilFunc] 72) := (hBc.block _ (by omega)).trans F.out.2.2.2
    have p0 : wc.cell? ⟨w.heap.size + 1 + 1 + 1, 0, none⟩ = some .nilFunc := by simp only [World.cell?, r3]; rfl
    have p1 : wc.cell? ⟨w.heap.size + 1 + 1 + 1, 1, none⟩ = some .nilFunc := by simp only [World.cell?, r3]; rfl
    have p2 : wc.cell? ⟨w.heap.size + 1 + 1 + 1, 2, none⟩ = some .nilFunc := by simp only [World.cell?, r3]; rfl
    have p3 : wc.cell? ⟨w.heap.size + 1 + 1 + 1, 3, none⟩ = some .nilFunc := by simp only [World.cell?, r3]; rfl
    have q0 : wc.frozen? ⟨w.heap.size + 1 + 1 + 1, 0, none⟩ = false := by simp [World.frozen?, r3]
    have q1 : wc.frozen? ⟨w.heap.size + 1 + 1 + 1, 1, none⟩ = false := by simp [World.frozen?, r3]
    have q2 : wc.frozen? ⟨w.heap.size + 1 + 1 + 1, 2, none⟩ = false := by simp [World.frozen?, r3]
    have q3 : wc.frozen? ⟨w.heap.size + 1 + 1 + 1, 3, none⟩ = false := by simp [World.frozen?, r3]
    have hB := bgo hB5 hBc
    have O1 : Own1 w.heap.size wc w.heap.size 1 := ⟨Nat.le_refl _, by omega, k0⟩
    have O2 : Own1 w.heap.size wc (w.heap.size + 1) b := ⟨by omega, by omega, (hBc.cell (p := ⟨w.heap.size + 1, 0, none⟩) (by show w.heap.size + 1 < _; omega)).trans F.out.2.1⟩
    have O3 : Own1 w.heap.size wc (w.heap.size + 1 + 1 + 1 + 1) 0 := ⟨by omega, by omega, k4⟩
    have O := Lib.hid (And.intro O1 (And.intro O2 (And.intro O3 (And.intro ok (And.intro oe oz)))))
    have hl4 : w.heap.size + 1 + 1 + 1 + 1 < wc.heap.size := by omega
    have hl3 : w.heap.size + 1 + 1 + 1 < wc.heap.size := by omega
    have hl0 : w.heap.size < wc.heap.size := by omega
    clear r3 O1 O2 O3 ok oe oz
    go_wp2
    obtain ⟨O1, O2, O3, O4, O5, O6⟩ := O.out
    have l4 := O4.1
    have l5 := O5.1
    have l6 := O6.1
    refine bodyPost_ret (v := .agg #[(.func (.func 61) #[] #[.pointer (some ⟨Be, 0, none⟩), .pointer (some ⟨w.heap.size + 1 + 1 + 1 + 1, 0, none⟩), .pointer (some ⟨Bz, 0, none⟩)]), (.func (.func 62) #[] #[.pointer (some ⟨Be, 0, none⟩), .pointer (some ⟨Bz, 0, none⟩), .pointer (some ⟨w.heap.size + 1 + 1 + 1 + 1, 0, none⟩)]), (.func (.func 63) #[] #[.pointer (some ⟨Bk, 0, none⟩), .pointer (some ⟨w.heap.size, 0, none⟩)]), (.func (.func 64) #[] #[.pointer (some ⟨Be, 0, none⟩), .pointer (some ⟨w.heap.size, 0, none⟩), .pointer (some ⟨Bk, 0, none⟩), .pointer (some ⟨w.heap.size + 1, 0, none⟩)])]) (by simp [results, Tryd.results44, go_sem, p0, p1, p2, p3, hl3]) rfl ⟨⟨_, _, _, _, _, _, rfl, O1.far (by omega) _ _ _ _ _, O2.far (by omega) _ _ _ _ _, O3.far (by omega) _ _ _ _ _, (O4.mono (by omega)).far (by omega) _ _ _ _ _, (O5.mono (by omega)).far (by omega) _ _ _ _ _, (O6.mono (by omega)).far (by omega) _ _ _ _ _⟩, below_far hB (by omega) hB.size _ _ _ _ _⟩
end Go.Proofs.YthebahahpkficaaDoor
