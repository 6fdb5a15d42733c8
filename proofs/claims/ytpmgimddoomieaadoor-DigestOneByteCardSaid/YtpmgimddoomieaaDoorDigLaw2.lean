/- The walk of DigestOneByte. -/
import Derived.Test.YtpmgimddoomieaaDoorDigLaws
import Derived.RegionTactic
import Derived.ChangeAlike
namespace Go.Proofs.YtpmgimddoomieaaDoor
open Go.RowKit
set_option linter.unusedVariables false
set_option maxHeartbeats 2000000 in
theorem digestOneByte_walk (a : ByteArray) (at' c0 : Int) (t : ByteArray) (w : World) (ha : a.size ≤ maxLen) (hat : (Lit.int .i64 at').wf = true) (hc : (Lit.int .u8 c0).wf = true) (ht : t.size ≤ maxLen) (hT : Tab w) :
    Calls Tryd.prog 4 #[.string a, .int .i64 at', .int .u8 c0, .string t] w fun e w' => e = .returned (.bool true) ∧ Below w.heap.size w w' := by
  unfold maxLen at ha ht
  obtain ⟨m, hm, hma, hmk, hmo⟩ := min_k 2000 2000 rfl a.size
  obtain ⟨n, hn, hna, hnk, hno⟩ := min_k 200 200 rfl t.size
  obtain ⟨c, rfl⟩ := u8_of_wf hc
  have hsz : (a.extract 0 m).size = m := by rw [ext_size]; omega
  by_cases hz : m = 0
  · subst hz
    go_enter Tryd.func4, Tryd.ntmps4
    go_wp2_with fail
    refine (head_any _ hT).mono ?_
    rintro e w1 ⟨rfl, hb1⟩
    go_wp2_with fail
    go_ret
    exact ⟨rfl, hb1⟩
  · have hz' : ((m : Int) == 0) = false := by simp; omega
    go_enter Tryd.func4, Tryd.ntmps4
    go_wp2_with fail
    refine (head_any _ hT).mono ?_
    rintro e w1 ⟨rfl, hb1⟩
    go_wp2_with fail
    refine (pick_any _ _ _ hat (by omega) (by omega)).mono ?_
    rintro e w' ⟨rfl, rfl⟩
    have hp := pickF_lt at' m (by omega)
    obtain ⟨k, hk⟩ : ∃ k : Nat, pickF at' m = (k : Int) := ⟨(pickF at' m).toNat, by omega⟩
    rw [hk]
    rw [hk] at hp
    clear hk
    have hcv := byte_back (w1.alloc (.cells #[.int .u8 c.toNat] 5)).drew w1.heap.size c (by simp [go_sem])
    go_wp2_with fail
    go_region
    obtain ⟨Y, hY⟩ : ∃ Y, Y = (a.extract 0 m).extract 0 k ++ ⟨#[c]⟩ ++ (a.extract 0 m).extract (k + 1) m := ⟨_, rfl⟩
    rw [← hY]
    have hYs : Y.size ≤ 2001 := by rw [hY, app_size, app_size, ext_size, ext_size, ext_size]; show _ + 1 + _ ≤ 2001; omega
    have hY2 : Y.data.toList = (a.data.toList.take m).take k ++ c :: (a.data.toList.take m).drop (k + 1) := by
      rw [hY, app_data, app_data, Dig.ext_from, Dig.ext_from, Dig.ext_from]
      simp [List.take_take]
    clear hY
    have hk1 : k < (a.extract 0 m).size := by rw [hsz]; omega
    have hk2 : k < (a.data.toList.take m).length := by simp; omega
    have l1 : (((Dig.sum (a.data.toList.take m)).toNat : Int) == ((Dig.sum Y.data.toList).toNat : Int)) = (((a.extract 0 m)[k].toNat : Int) == (c.toNat : Int)) := by
      rw [hY2, Dig.ext_get a m k hk1 hk2]
      simpa using Dig.one_law (a.data.toList.take m) [] k hk2 c
    have l2 : (((Dig.sum (a.data.toList.take m ++ t.data.toList.take n)).toNat : Int) == ((Dig.sum (Y.data.toList ++ t.data.toList.take n)).toNat : Int)) = (((a.extract 0 m)[k].toNat : Int) == (c.toNat : Int)) := by
      rw [hY2, Dig.ext_get a m k hk1 hk2]
      exact Dig.one_law (a.data.toList.take m) (t.data.toList.take n) k hk2 c
    clear hY2 hk2
    go_wp2_with fail
    refine (sum_any _ _ (by rw [hsz]; unfold maxLen; omega)).mono ?_
    rintro e w' ⟨rfl, rfl⟩
    go_wp2_with fail
    refine (sum_any _ _ (by unfold maxLen; omega)).mono ?_
    rintro e w' ⟨rfl, rfl⟩
    go_wp2_with fail
    refine (sum_any _ _ (by rw [app_size, hsz, ext_size]; unfold maxLen; omega)).mono ?_
    rintro e w' ⟨rfl, rfl⟩
    go_wp2_with fail
    refine (sum_any _ _ (by rw [app_size, ext_size]; unfold maxLen; omega)).mono ?_
    rintro e w' ⟨rfl, rfl⟩
    go_wp2_with fail
    go_ret
    refine ⟨?_, ((hb1.alloc hb1.size _).drew)⟩
    first | rfl | (rw [l2, beq_self_eq_true]; rfl) | go_show
end Go.Proofs.YtpmgimddoomieaaDoor
