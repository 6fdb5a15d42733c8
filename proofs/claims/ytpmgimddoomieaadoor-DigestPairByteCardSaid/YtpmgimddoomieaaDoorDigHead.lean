/- The walk of the law package's head: the fixed examples hold. -/
import Derived.Test.YtpmgimddoomieaaDoorDigW4
namespace Go.Proofs.YtpmgimddoomieaaDoor
open Go.RowKit
theorem text_at (n : Int) (d : UInt64) (hn : n = d.toNat) (w : World) (hT : Tab w) : Calls Tryd.prog 16 #[.int .u64 n] w fun e w' => e = .returned (.string ⟨(Dig.text d).toArray⟩) ∧ Below w.heap.size w w' := by
  subst hn; exact text_any d w hT
theorem pair_at (n m : Int) (a b : UInt64) (hn : n = a.toNat) (hm : m = b.toNat) (w : World) : Calls Tryd.prog 14 #[.int .u64 n, .int .u64 m] w fun e w' => e = .returned (.int .u64 (Dig.pair a b).toNat) ∧ Below w.heap.size w w' := by
  subst hn; subst hm; exact pair_any a b w
theorem parse_at (s : ByteArray) (v : Int) (e : Int) (hv : ((Dig.pv s.data.toList).toNat : Int) = v) (he : Dig.pe s.data.toList = e) (w : World) (hT : Tab w) : Calls Tryd.prog 10 #[.string s] w fun r w' => r = .returned (.tuple #[.int .u64 v, .int .i64 e]) ∧ w = w' := by
  subst hv; subst he; exact parse_any s w hT
theorem sum_at (s : ByteArray) (v : Int) (hs : s.size ≤ maxLen) (hv : ((Dig.sum s.data.toList).toNat : Int) = v) (w : World) : Calls Tryd.prog 12 #[.string s] w fun r w' => r = .returned (.int .u64 v) ∧ w = w' := by
  subst hv; exact sum_any s w hs
theorem text_str (d : UInt64) (l : List UInt8) (h : Dig.text d = l) : (⟨(Dig.text d).toArray⟩ : ByteArray) = ⟨l.toArray⟩ := by rw [h]
set_option maxHeartbeats 2000000 in
theorem head_any (w : World) (hT : Tab w) : Calls Tryd.prog 9 #[] w fun e w' => e = .returned (.bool true) ∧ Below w.heap.size w w' := by
  go_enter Tryd.func9, Tryd.ntmps9
  go_wp2_with fail
  refine (parse_at _ 255 0 (by decide +kernel) (by decide +kernel) _ hT).mono ?_
  rintro e w' ⟨rfl, rfl⟩
  go_wp2_with fail
  refine (parse_at _ 0 12 (by decide +kernel) (by decide +kernel) _ hT).mono ?_
  rintro e w' ⟨rfl, rfl⟩
  go_wp2_with fail
  refine (parse_at _ 0 12 (by decide +kernel) (by decide +kernel) _ hT).mono ?_
  rintro e w' ⟨rfl, rfl⟩
  go_wp2_with fail
  refine (text_at _ 0 rfl _ hT).mono ?_
  rintro e w1 ⟨rfl, hb1⟩
  rw [text_str 0 _ (show _ = [48, 48, 48, 48, 48, 48, 48, 48, 48, 48, 48, 48, 48, 48, 48, 48] by decide +kernel)]
  go_wp2_with fail
  refine (text_at _ 255 rfl _ (hT.below hb1)).mono ?_
  rintro e w2 ⟨rfl, hb2⟩
  rw [text_str 255 _ (show _ = [48, 48, 48, 48, 48, 48, 48, 48, 48, 48, 48, 48, 48, 48, 102, 102] by decide +kernel)]
  go_wp2_with fail
  refine (text_at _ 18446744073709551615 rfl _ ((hT.below hb1).below hb2)).mono ?_
  rintro e w3 ⟨rfl, hb3⟩
  rw [text_str 18446744073709551615 _ (show _ = [102, 102, 102, 102, 102, 102, 102, 102, 102, 102, 102, 102, 102, 102, 102, 102] by decide +kernel)]
  go_wp2_with fail
  refine (pair_at _ _ 0 258 rfl rfl _).mono ?_
  rintro e w4 ⟨rfl, hb4⟩
  go_wp2_with fail
  refine (sum_at _ (Dig.pair 0 258).toNat (by decide) (by decide +kernel) _).mono ?_
  rintro e w' ⟨rfl, rfl⟩
  go_wp2_with fail
  refine (sum_at _ _ (by decide) rfl _).mono ?_
  rintro e w' ⟨rfl, rfl⟩
  go_wp2_with fail
  refine (sum_at _ _ (by decide) rfl _).mono ?_
  rintro e w' ⟨rfl, rfl⟩
  go_wp2_with fail
  go_ret
  have hne : (((Dig.sum [97]).toNat : Int) != ((Dig.sum [98]).toNat : Int)) = true := by decide +kernel
  rw [hne]
  exact ⟨rfl, bt (bt (bt hb1 hb2) hb3) hb4⟩
end Go.Proofs.YtpmgimddoomieaaDoor
