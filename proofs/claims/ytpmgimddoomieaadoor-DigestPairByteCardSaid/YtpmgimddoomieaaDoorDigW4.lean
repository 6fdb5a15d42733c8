/- The walks of package digest, fourth part: Parse. -/
import Derived.Test.YtpmgimddoomieaaDoorDigW3
namespace Go.Proofs.YtpmgimddoomieaaDoor
open Go.RowKit
theorem hex_index (j : Nat) (hj : j < 16) (w : World) : (Instr.index 41 (.agg hexCells) (.int .i64 (j : Int))).run Tryd.prog w = .ok (.int .u8 (Dig.hexd j).toNat) w := by
  rcases lt16 j hj with rfl | rfl | rfl | rfl | rfl | rfl | rfl | rfl | rfl | rfl | rfl | rfl | rfl | rfl | rfl | rfl <;> kernel_rfl
theorem info_hex : (Tryd.prog.info? 41).map (·.size) = some hexCells.size := by kernel_rfl
theorem unhex_hit (j : Nat) (c : UInt8) (h : (((Dig.hexd j).toNat : Int) == (c.toNat : Int)) = true) : Dig.unhexTo c (j + 1) = j := by
  have : Dig.hexd j = c := UInt8.toNat_inj.1 (by have := beq_iff_eq.1 h; omega)
  simp [Dig.unhexTo, this]
theorem unhex_miss (j : Nat) (c : UInt8) (h : (((Dig.hexd j).toNat : Int) == (c.toNat : Int)) = false) : Dig.unhexTo c (j + 1) = Dig.unhexTo c j := by
  have : ¬ Dig.hexd j = c := by rintro rfl; simp at h
  simp [Dig.unhexTo, this]
theorem unhexI_pos (c : UInt8) (h : 0 ≤ Dig.unhexI c) : ∃ v : Nat, Dig.unhex c = some v ∧ v < 16 ∧ Dig.unhexI c = v := by
  unfold Dig.unhexI at h ⊢
  cases hu : Dig.unhex c with
  | none => rw [hu] at h; simp at h
  | some v => exact ⟨v, rfl, Dig.unhex_lt c v hu, rfl⟩
theorem u64_shl4_or (e : UInt64) (v : Nat) (hv : v < 16) : bits .or .u64 (IntKind.u64.wrap ((e.toNat : Int) * 16)) (IntKind.u64.wrap (v : Int)) = ((e * 16 + UInt64.ofNat v).toNat : Int) := by
  have he := e.toNat_lt
  have h1 : IntKind.u64.wrap ((e.toNat : Int) * 16) = ((e.toNat * 16 % 18446744073709551616 : Nat) : Int) := by rw [IntKind.wrap_u64]; omega
  have h2 : IntKind.u64.wrap (v : Int) = ((v : Nat) : Int) := by rw [IntKind.wrap_u64]; omega
  rw [h1, h2, u64_or_nat _ _ (by omega) (by omega), nat_join 4 _ _ (by omega) (by omega)]
  rw [UInt64.toNat_add, UInt64.toNat_mul, UInt64.toNat_ofNat']
  have h16 : (16 : UInt64).toNat = 16 := rfl
  rw [h16]
  omega
theorem parse_none (s : ByteArray) (k : Nat) (hk : k < s.size) (hs : s.size = 16) (e : UInt64) (hp : Dig.parseL (s.data.toList.take k) 0 = some e) (hn : Dig.unhexI s[k] < 0) : Dig.parse s.data.toList = none := by
  unfold Dig.parse
  rw [if_pos (by simpa using hs)]
  have h1 : Dig.parseL (s.data.toList.take (k + 1)) 0 = none := by
    rw [take_snoc s k hk, Dig.parseL_append, hp]
    unfold Dig.unhexI at hn
    cases hu : Dig.unhex s[k] with
    | none => rfl
    | some v => rw [hu] at hn; simp at hn; omega
  have h2 := Dig.parseL_none _ (s.data.toList.drop (k + 1)) 0 h1
  rwa [List.take_append_drop] at h2
set_option maxHeartbeats 2000000 in
theorem parse_any (s : ByteArray) (w : World) (hT : Tab w) : Calls Tryd.prog 10 #[.string s] w fun e w' => e = .returned (.tuple #[.int .u64 (Dig.pv s.data.toList).toNat, .int .i64 (Dig.pe s.data.toList)]) ∧ w = w' := by
  by_cases hs : s.size = 16
  · have hs1 : ((s.size : Int) != 16) = false := by simp [hs]
    obtain ⟨tt, fr, hg⟩ := hT
    have Hg := Lib.hid hg
    clear hg
    go_enter Tryd.func10, Tryd.ntmps10
    go_wp2
    have Hs := Lib.hid hs
    have hs2 : 16 ≤ s.size := by omega
    have hs3 : s.size ≤ 16 := by omega
    clear hs hs1
    go_loop [4, 14] (fun d i => ∃ (k : Nat) (e : UInt64), k ≤ 16 ∧ i = .int .i64 k ∧ d = .int .u64 e.toNat ∧ Dig.parseL (s.data.toList.take k) 0 = some e) (fun _ i => 16 - (intOf i).toNat)
    case atStart => exact ⟨0, 0, Nat.zero_le _, rfl, rfl, rfl⟩
    case round =>
      obtain ⟨k, e, hk, rfl, rfl, hp⟩ := hrel
      have Hp := Lib.hid hp
      clear hp
      by_cases hlt : k < 16
      · go_wp2_with (refine wpList_load_row rfl 41 _ rfl 0 rfl tt _ fr _ Hg.out Tryd.underlying41 rfl info_hex ?_)
        go_loop [6, 18] (fun v i => ∃ j : Nat, j ≤ 16 ∧ i = .int .i64 j ∧ v = .int .i64 (Dig.unhexTo s[k] j)) (fun _ i => 16 - (intOf i).toNat)
        case atStart => exact ⟨0, Nat.zero_le _, rfl, rfl⟩
        case round =>
          obtain ⟨j, hj, rfl, rfl⟩ := hrel
          by_cases hjl : j < 16
          · have hix := fun w => hex_index j hjl w
            go_wp2
            · have hq : (((Dig.hexd j).toNat : Int) == (s[k].toNat : Int)) = true := by assumption
              go_round
              case rel => exact ⟨j + 1, by omega, by go_num, by rw [unhex_hit _ _ hq]⟩
              case measure => simp [intOf]; omega
            · have hq : (((Dig.hexd j).toNat : Int) == (s[k].toNat : Int)) = false := by assumption
              go_round
              case rel => exact ⟨j + 1, by omega, by go_num, by rw [unhex_miss _ _ hq]⟩
              case measure => simp [intOf]; omega
          · have Hj := Lib.hid (show j = 16 by omega)
            have hsz : k < s.size := by omega
            have HS := Lib.hid (take_snoc s k hsz)
            go_wp2
            · have hneg : Dig.unhexTo s[k] j < 0 := by assumption
              go_ret2
              rw [Hj.out, Dig.unhexTo_16] at hneg
              have hnone : Dig.parse s.data.toList = none := parse_none s k hsz Hs.out e Hp.out hneg
              have h2 : Dig.pv s.data.toList = 0 := by unfold Dig.pv; rw [hnone]; rfl
              have h3 : Dig.pe s.data.toList = 12 := by unfold Dig.pe; rw [hnone]; rfl
              rw [h2, h3]
              exact ⟨rfl, rfl⟩
            · have hpos : 0 ≤ Dig.unhexTo s[k] j := by assumption
              rw [Hj.out, Dig.unhexTo_16] at hpos
              obtain ⟨v, hv, hv16, hvI⟩ := unhexI_pos _ hpos
              go_round
              case rel => exact ⟨k + 1, e * 16 + UInt64.ofNat v, by omega, by go_num, by rw [Hj.out, Dig.unhexTo_16, hvI, u64_shl4_or _ _ hv16], by rw [HS.out, Dig.parseL_append, Hp.out]; simp only [hv]⟩
              case measure => simp [intOf]; omega
      · have hE : s.data.toList.take k = s.data.toList := List.take_of_length_le (by simp; omega)
        have HE := Lib.hid hE
        clear hE
        go_wp2
        go_ret2
        have h1 : Dig.parse s.data.toList = some e := by
          unfold Dig.parse; rw [if_pos (by simpa using Hs.out), ← HE.out]; exact Hp.out
        have h2 : Dig.pv s.data.toList = e := by unfold Dig.pv; rw [h1]; rfl
        have h3 : Dig.pe s.data.toList = 0 := by unfold Dig.pe; rw [h1]; rfl
        rw [h2, h3]
        exact ⟨rfl, rfl⟩
  · have hs1 : ((s.size : Int) != 16) = true := by simp; omega
    go_enter Tryd.func10, Tryd.ntmps10
    go_wp2
    go_ret2
    have h1 : Dig.parse s.data.toList = none := by
      unfold Dig.parse; rw [if_neg]; simpa using hs
    have h2 : Dig.pv s.data.toList = 0 := by unfold Dig.pv; rw [h1]; rfl
    have h3 : Dig.pe s.data.toList = 12 := by unfold Dig.pe; rw [h1]; rfl
    rw [h2, h3]
    exact ⟨rfl, rfl⟩
end Go.Proofs.YtpmgimddoomieaaDoor
