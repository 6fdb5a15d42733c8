/- The walks of the reference package 27, seventh part: Same, Prove where it fails. -/
import Derived.Test.YthebahahpkficaaDoorRpRef6
import Derived.Test.YthebahahpkficaaDoorRpWA
namespace Go.Proofs.YthebahahpkficaaDoor
open Go.RowKit
set_option linter.unusedVariables false
theorem eqBP (c f0 f1 e0 e1 z0 z1 : Int) (w : World) : (Op.equalIn 10000 25 (.agg #[.int .i64 c, .int .i64 f0, .int .i64 f1, .int .i64 e0, .int .i64 e1, .int .i64 z0, .int .i64 z1]) (.agg #[.int .i64 c, .int .i64 f0, .int .i64 f1, .int .i64 e0, .int .i64 e1, .int .i64 z0, .int .i64 z1])).run Tryd.prog w = .ok true w := by
  have hf : Tryd.prog.fieldsOf 25 = _ := (by kernel_rfl : _ = (match Tryd.prog.underlying 25 with | some (.struct fs) => fs | _ => #[]))
  rw [run_equalIn_struct w 9999 _ _ _ (by kernel_rfl) (by kernel_rfl), hf, Tryd.underlying25]
  have hag : ∀ w, (isAgg 3).run Tryd.prog w = .ok false w := fun _ => by kernel_rfl
  have hag2 : ∀ w, (isAgg 23).run Tryd.prog w = .ok true w := fun _ => by kernel_rfl
  have hi := fun (w : World) (a : Int) => run_equalIn_int (P := Tryd.prog) w 9998 3 .i64 .i64 a a Tryd.underlying3
  have ha := fun (w : World) (a b : Int) => eqArr2 9997 a b a b w
  simp [Op.eqFields, part, hag, hag2, hi, ha]
attribute [-go_sem] run_equalIn_agg
attribute [local go_sem] eqBP
set_option maxHeartbeats 4000000 in
set_option maxRecDepth 100000 in
theorem rsame_eq (l : List BP) (A B : Option Addr) (ca cb : Nat) (w : World) (hA : Sl w w.heap.size 7 A l.length (bpsC l)) (hB : Sl w w.heap.size 7 B l.length (bpsC l)) (hn : l.length ≤ 1000) :
    Calls Tryd.prog 14 #[.slice A l.length ca, .slice B l.length cb] w fun e w' => e = .returned (.bool true) ∧ Below w.heap.size w w' := by
  have hne : ((l.length : Int) != (l.length : Int)) = false := by simp
  have HA := Lib.hid hA
  have HB := Lib.hid hB
  clear hA hB
  go_enter Tryd.func14, Tryd.ntmps14
  go_wp2
  go_loopw [5] (fun i wr => ∃ k : Nat, k ≤ l.length ∧ i = .int .i64 k ∧ Below w.heap.size w wr) (fun i _ => l.length - (intOf i).toNat)
  case atStart => exact ⟨0, by omega, rfl, Below.refl _ _⟩
  case round =>
    obtain ⟨k, hk, rfl, hW⟩ := hrel
    by_cases hlt : k < l.length
    · obtain ⟨b, off, rfl, hb, hcell⟩ := (HA.out).2 (by omega)
      obtain ⟨b2, off2, rfl, hb2, hcell2⟩ := (HB.out).2 (by omega)
      have hg := fun j (hj : j < 7) => (hW.cell (p := ⟨b, off + (k * 7 + j), none⟩) hb).trans (hcell (k * 7 + j) ((bpC (l.getD k zeroBP)).getD j undef) (by rw [bpsC_get l k j hlt hj]; rcases (show j = 0 ∨ j = 1 ∨ j = 2 ∨ j = 3 ∨ j = 4 ∨ j = 5 ∨ j = 6 by omega) with rfl | rfl | rfl | rfl | rfl | rfl | rfl <;> rfl))
      have hh := fun j (hj : j < 7) => (hW.cell (p := ⟨b2, off2 + (k * 7 + j), none⟩) hb2).trans (hcell2 (k * 7 + j) ((bpC (l.getD k zeroBP)).getD j undef) (by rw [bpsC_get l k j hlt hj]; rcases (show j = 0 ∨ j = 1 ∨ j = 2 ∨ j = 3 ∨ j = 4 ∨ j = 5 ∨ j = 6 by omega) with rfl | rfl | rfl | rfl | rfl | rfl | rfl <;> rfl))
      have hg0 := hg 0 (by omega)
      have hg1 := hg 1 (by omega)
      have hg2 := hg 2 (by omega)
      have hg3 := hg 3 (by omega)
      have hg4 := hg 4 (by omega)
      have hg5 := hg 5 (by omega)
      have hg6 := hg 6 (by omega)
      have hh0 := hh 0 (by omega)
      have hh1 := hh 1 (by omega)
      have hh2 := hh 2 (by omega)
      have hh3 := hh 3 (by omega)
      have hh4 := hh 4 (by omega)
      have hh5 := hh 5 (by omega)
      have hh6 := hh 6 (by omega)
      clear hcell hg hcell2 hh
      obtain ⟨p, hp⟩ : ∃ p, l.getD k zeroBP = p := ⟨_, rfl⟩
      rw [hp] at hg0 hg1 hg2 hg3 hg4 hg5 hg6 hh0 hh1 hh2 hh3 hh4 hh5 hh6
      clear hp
      obtain ⟨c0, f0, f1, e0, e1, z0, z1⟩ := p
      simp only [bpC, List.getD_cons_zero, List.getD_cons_succ] at hg0 hg1 hg2 hg3 hg4 hg5 hg6 hh0 hh1 hh2 hh3 hh4 hh5 hh6
      rw [Nat.add_zero] at hg0 hh0
      rw [← Nat.add_assoc] at hg1 hg2 hg3 hg4 hg5 hg6 hh1 hh2 hh3 hh4 hh5 hh6
      go_wp2_with fail
      go_quiet (fail)
      have hW2 := below_drewN hW nq
      clear hg0 hg1 hg2 hg3 hg4 hg5 hg6 hh0 hh1 hh2 hh3 hh4 hh5 hh6
      go_wp2
      go_roundw
      case rel => exact ⟨k + 1, by omega, by go_num, hW2⟩
      case measure => simp [intOf]; omega
    · obtain rfl : k = l.length := by omega
      go_wp2
      go_ret
      exact ⟨rfl, hW⟩
set_option maxHeartbeats 2000000 in
set_option maxRecDepth 100000 in
theorem rprove_range (v blind : Int) (n : Nat) (seed : ByteArray) (w : World) (hn1 : 1 ≤ n) (hn2 : n ≤ 28) (hv : v < 0 ∨ ((2 ^ n : Nat) : Int) ≤ v) (hb0 : 0 ≤ blind) (hb1 : blind < 1073741789) :
    Calls Tryd.prog 11 #[.int .i64 v, .int .i64 blind, .int .i64 (n : Int), .string seed] w fun r w' => r = .returned (.tuple #[.slice none 0 0, .int .i64 3]) ∧ w = w' := by
  obtain ⟨E, hE⟩ : ∃ E : Int, ((2 ^ n : Nat) : Int) = E := ⟨_, rfl⟩
  rw [hE] at hv
  have hnb : inFB blind = true := by unfold inFB; simp; omega
  have HE := Lib.hid hE
  have HN := Lib.hid hnb
  clear hE hnb
  rcases hv with hv | hv
  · have hd : decide (v < 0) = true := by simpa using hv
    go_enter Tryd.func11, Tryd.ntmps11
    go_wp2_with fail
    refine (rnumber_v blind true HN _).mono ?_
    rintro e w' ⟨rfl, rfl⟩
    go_wp2
    go_ret2
    exact ⟨rfl, rfl⟩
  · by_cases h0 : v < 0
    · have hd : decide (v < 0) = true := by simpa using h0
      clear hv
      go_enter Tryd.func11, Tryd.ntmps11
      go_wp2_with fail
      refine (rnumber_v blind true HN _).mono ?_
      rintro e w' ⟨rfl, rfl⟩
      go_wp2
      go_ret2
      exact ⟨rfl, rfl⟩
    · have hd : decide (v < 0) = false := by simp; omega
      have hd2 : decide (E ≤ v) = true := by simpa using hv
      go_enter Tryd.func11, Tryd.ntmps11
      go_wp2_with fail
      refine (rnumber_v blind true HN _).mono ?_
      rintro e w' ⟨rfl, rfl⟩
      go_wp2_with fail
      refine (power2_at n E HE (by omega) _).mono ?_
      rintro e w' ⟨rfl, rfl⟩
      go_wp2
      go_ret2
      exact ⟨rfl, rfl⟩
set_option maxHeartbeats 2000000 in
set_option maxRecDepth 100000 in
theorem rprove_arg (v blind n : Int) (seed : ByteArray) (w : World) (h : n < 1 ∨ 28 < n ∨ blind < 0 ∨ 1073741789 ≤ blind) :
    Calls Tryd.prog 11 #[.int .i64 v, .int .i64 blind, .int .i64 n, .string seed] w fun r w' => r = .returned (.tuple #[.slice none 0 0, .int .i64 1]) ∧ w = w' := by
  by_cases h1 : n < 1
  · go_enter Tryd.func11, Tryd.ntmps11
    go_wp2
    go_ret2
    exact ⟨rfl, rfl⟩
  · by_cases h2 : 28 < n
    · go_enter Tryd.func11, Tryd.ntmps11
      go_wp2
      go_ret2
      exact ⟨rfl, rfl⟩
    · have hnb : inFB blind = false := by unfold inFB; simp; omega
      have HN := Lib.hid hnb
      clear hnb h
      go_enter Tryd.func11, Tryd.ntmps11
      go_wp2_with fail
      refine (rnumber_v blind false HN _).mono ?_
      rintro e w' ⟨rfl, rfl⟩
      go_wp2
      go_ret2
      exact ⟨rfl, rfl⟩
end Go.Proofs.YthebahahpkficaaDoor
