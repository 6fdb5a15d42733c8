/- The walks of the laws of layer 23. -/
import Derived.Test.YtpmgimddoomieaaDoorDigHead
import Derived.Test.YtpmgimddoomieaaDoorDigRef
import Derived.Lib.LaidTab
import Derived.OpenShut
namespace Go.Proofs.YtpmgimddoomieaaDoor
open Go.RowKit
set_option linter.unusedVariables false
theorem tab_of_var {W : World} (hg : Tryd.prog.globalNamed "wageoffice/digest.digits" = some 0) (h : Lib.TabIs Tryd.prog W "wageoffice/digest.digits" .u8 [48, 49, 50, 51, 52, 53, 54, 55, 56, 57, 97, 98, 99, 100, 101, 102]) : Tab W := by
  unfold Lib.TabIs World.var? at h
  rw [hg] at h
  simp only [Option.bind_some] at h
  split at h
  · rename_i cs t fr hq
    refine ⟨t, fr, ?_⟩
    rw [hq]
    have : cs = hexCells := by simpa [hexCells] using h
    rw [this]
  · cases h
theorem u64_of_wf {a : Int} (h : (Lit.int .u64 a).wf = true) : ∃ u : UInt64, a = u.toNat := by
  have h1 : 0 ≤ a ∧ a < 18446744073709551616 := by
    have := bounds_u64 h; omega
  exact ⟨UInt64.ofNat a.toNat, by rw [UInt64.toNat_ofNat']; omega⟩
theorem u8_of_wf {a : Int} (h : (Lit.int .u8 a).wf = true) : ∃ u : UInt8, a = u.toNat := by
  have h1 : 0 ≤ a ∧ a < 256 := by
    have := bounds_u8 h; omega
  exact ⟨UInt8.ofNat a.toNat, by rw [UInt8.toNat_ofNat']; omega⟩
theorem min_k (k : Int) (K : Nat) (hK : k = K) (n : Nat) : ∃ m : Nat, (if k < (n : Int) then k else (n : Int)) = (m : Int) ∧ m ≤ n ∧ m ≤ K ∧ (m = n ∨ m = K) := by
  subst hK
  by_cases h : (K : Int) < (n : Int)
  · exact ⟨K, by rw [if_pos h], by omega, by omega, .inr rfl⟩
  · exact ⟨n, by rw [if_neg h], by omega, by omega, .inl rfl⟩
theorem ext_size (a : ByteArray) (i j : Nat) : (a.extract i j).size = min j a.size - i := ByteArray.size_extract
theorem ext_data (a : ByteArray) (m : Nat) : (a.extract 0 m).data.toList = a.data.toList.take m := by
  simp [ByteArray.data_extract]
theorem app_data (a b : ByteArray) : (a ++ b).data.toList = a.data.toList ++ b.data.toList := by
  simp [ByteArray.data_append]
theorem app_size (a b : ByteArray) : (a ++ b).size = a.size + b.size := ByteArray.size_append
theorem extends_law (x y t : List UInt8) (h : x.length = y.length) : (((Dig.sum x).toNat : Int) == ((Dig.sum y).toNat : Int)) = (((Dig.sum (x ++ t)).toNat : Int) == ((Dig.sum (y ++ t)).toNat : Int)) := by
  have e1 : ∀ a b : UInt64, (((a.toNat : Int) == (b.toNat : Int)) = decide (a = b)) := fun a b => by
    rw [Bool.eq_iff_iff, beq_iff_eq, decide_eq_true_iff]
    exact ⟨fun h => UInt64.toNat_inj.1 (by omega), fun h => by rw [h]⟩
  rw [e1, e1, decide_eq_decide]
  unfold Dig.sum
  rw [List.length_append, List.length_append, h]
  constructor
  · intro hh
    have h1 := Dig.finish_inj _ _ _ hh
    unfold Dig.state at h1 ⊢
    rw [List.foldl_append, List.foldl_append, h1]
  · intro hh
    have h1 := Dig.finish_inj _ _ _ hh
    unfold Dig.state at h1 ⊢
    rw [List.foldl_append, List.foldl_append] at h1
    rw [Dig.fold_inj _ _ _ h1]
theorem min_n (a b : Nat) : ∃ m : Nat, (if b < a then (b : Int) else (a : Int)) = (m : Int) ∧ m ≤ a ∧ m ≤ b := by
  by_cases h : b < a
  · exact ⟨b, by rw [if_pos h], by omega, by omega⟩
  · exact ⟨a, by rw [if_neg h], by omega, by omega⟩
set_option maxHeartbeats 2000000 in
theorem digestExtends_walk (a b t : ByteArray) (w : World) (ha : a.size ≤ maxLen) (hb : b.size ≤ maxLen) (ht : t.size ≤ maxLen) (hT : Tab w) :
    Calls Tryd.prog 6 #[.string a, .string b, .string t] w fun e w' => e = .returned (.bool true) ∧ Below w.heap.size w w' := by
  unfold maxLen at ha hb ht
  obtain ⟨m1, hm1, hm1a, hm1b⟩ := min_n a.size b.size
  obtain ⟨m, hm, hma, hmk, hmo⟩ := min_k 2000 2000 rfl m1
  obtain ⟨n, hn, hna, hnk, hno⟩ := min_k 2000 2000 rfl t.size
  go_enter Tryd.func6, Tryd.ntmps6
  go_wp2_with fail
  refine (head_any _ hT).mono ?_
  rintro e w1 ⟨rfl, hb1⟩
  go_wp2_with fail
  refine (sum_any _ _ (by rw [ext_size]; unfold maxLen; omega)).mono ?_
  rintro e w' ⟨rfl, rfl⟩
  go_wp2_with fail
  refine (sum_any _ _ (by rw [ext_size]; unfold maxLen; omega)).mono ?_
  rintro e w' ⟨rfl, rfl⟩
  go_wp2_with fail
  refine (sum_any _ _ (by rw [app_size, ext_size, ext_size]; unfold maxLen; omega)).mono ?_
  rintro e w' ⟨rfl, rfl⟩
  go_wp2_with fail
  refine (sum_any _ _ (by rw [app_size, ext_size, ext_size]; unfold maxLen; omega)).mono ?_
  rintro e w' ⟨rfl, rfl⟩
  go_wp2_with fail
  go_ret
  refine ⟨?_, hb1⟩
  rw [extends_law (a.data.toList.take m) (b.data.toList.take m) (t.data.toList.take n) (by simp; omega), beq_self_eq_true]
  rfl
def pickF (c n : Int) : Int := (if c < 0 then -(c + 1) else c) % n
theorem pickF_lt (c n : Int) (hn : 0 < n) : 0 ≤ pickF c n ∧ pickF c n < n := ⟨Int.emod_nonneg _ (by omega), Int.emod_lt_of_pos _ hn⟩
theorem pick_any (c n : Int) (w : World) (hc : (Lit.int .i64 c).wf = true) (h1 : 1 ≤ n) (h2 : n ≤ 9223372036854775807) : Calls Tryd.prog 18 #[.int .i64 c, .int .i64 n] w fun e w' => e = .returned (.int .i64 (pickF c n)) ∧ w = w' := by
  have hb := bounds_i64 hc
  have hne : (n == 0) = false := by rw [beq_eq_false_iff_ne]; omega
  by_cases h : c < 0
  · have hp : pickF c n = (-(c + 1)) % n := by unfold pickF; rw [if_pos h]
    rw [hp]
    go_enter Tryd.func18, Tryd.ntmps18
    go_wp2
    go_ret
    refine ⟨?_, rfl⟩
    have e : -(c + 1).tmod n = -(c + 1) % n := by rw [← Int.neg_tmod, Int.tmod_eq_emod_of_nonneg (by omega)]
    rw [e]
    rfl
  · have hp : pickF c n = c % n := by unfold pickF; rw [if_neg h]
    rw [hp]
    go_enter Tryd.func18, Tryd.ntmps18
    go_wp2
    go_ret
    exact ⟨rfl, rfl⟩
end Go.Proofs.YtpmgimddoomieaaDoor
