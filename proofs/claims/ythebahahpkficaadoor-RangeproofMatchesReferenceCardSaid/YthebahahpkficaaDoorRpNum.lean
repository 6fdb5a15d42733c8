/- Decimal digits: the walks of number and digits. -/
import Derived.Test.YthebahahpkficaaDoorRpWC
namespace Go.Proofs.YthebahahpkficaaDoor
open Go.RowKit
set_option linter.unusedVariables false
def digB (k : Nat) : UInt8 := UInt8.ofNat (48 + k % 10)
theorem digB_nat (k : Nat) : (digB k).toNat = 48 + k % 10 := by unfold digB; rw [UInt8.toNat_ofNat']; omega
def upTo (k : Nat) : List UInt8 := if k = 0 then [] else Lib.decDigits k
theorem dec_step (n : Nat) : Lib.decDigits n = upTo (n / 10) ++ [digB n] := by
  rw [Lib.decDigits]
  by_cases h : n < 10
  · rw [dif_pos h, show n / 10 = 0 by omega]
    unfold upTo digB
    rw [if_pos rfl, show n % 10 = n by omega]
    rfl
  · rw [dif_neg h]
    unfold upTo digB
    rw [if_neg (by omega)]
/-- What has been written, what is left. -/
structure NumRel (n k : Nat) (s : ByteArray) : Prop where
  kn : k ≤ n
  ok : (s.data.toList = [] ∧ k = n) ∨ (s.data.toList ≠ [] ∧ upTo k ++ s.data.toList = Lib.decDigits n ∧ s.size + k ≤ n + 1)
theorem upTo_step (k : Nat) (h : 0 < k) : upTo k = upTo (k / 10) ++ [digB k] := by
  have := dec_step k
  unfold upTo at this ⊢
  rw [if_neg (by omega)]
  exact this
theorem NumRel.step {n k : Nat} {s : ByteArray} (h : NumRel n k s) (hc : 0 < k ∨ s.data.toList = []) : NumRel n (k / 10) (⟨[digB k].toArray⟩ ++ s) := by
  have hd : ((⟨[digB k].toArray⟩ : ByteArray) ++ s).data.toList = digB k :: s.data.toList := by simp [ByteArray.data_append]
  have hz : ((⟨[digB k].toArray⟩ : ByteArray) ++ s).size = 1 + s.size := by rw [app_size]; rfl
  have hk := h.kn
  refine ⟨by omega, .inr ⟨by rw [hd]; simp, ?_, ?_⟩⟩
  · rw [hd]
    rcases h.ok with ⟨h1, h2⟩ | ⟨h1, h2, h3⟩
    · rw [h1, h2, dec_step n]
    · rcases hc with h0 | h0
      · rw [← h2, upTo_step k h0]; simp
      · exact absurd h0 h1
  · rw [hz]
    rcases h.ok with ⟨h1, h2⟩ | ⟨h1, h2, h3⟩
    · have : s.size = 0 := by
        have e : s.data.toList.length = s.size := Array.length_toList
        rw [h1] at e; simpa using e.symm
      omega
    · rcases hc with h0 | h0
      · omega
      · exact absurd h0 h1
theorem NumRel.fin {n : Nat} {s : ByteArray} (h : NumRel n 0 s) (hs : s.data.toList ≠ []) : s = itoaB (n : Int) := by
  rcases h.ok with ⟨h1, _⟩ | ⟨_, h2, _⟩
  · exact absurd h1 hs
  · unfold upTo at h2
    rw [if_pos rfl, List.nil_append] at h2
    unfold itoaB Lib.itoa
    rw [if_neg (by omega), Int.toNat_natCast, ← h2]
set_option maxHeartbeats 2000000 in
set_option maxRecDepth 100000 in
theorem number_any (n : Nat) (hn : n < 4611686018427387904) (w : World) : Calls Tryd.prog 22 #[.int .i64 (n : Int)] w fun r w' => r = .returned (.string (itoaB (n : Int))) ∧ Below w.heap.size w w' := by
  go_enter Tryd.func22, Tryd.ntmps22
  go_wp2
  go_loopw [3, 4] (fun s k wr => ∃ (q : Nat) (t : ByteArray), k = .int .i64 (q : Int) ∧ s = .string t ∧ NumRel n q t ∧ Below w.heap.size w wr) (fun s k _ => 2 * (intOf k).toNat + (match s with | .string t => if t.data.toList = [] then 1 else 0 | _ => 0))
  case atStart => exact ⟨n, ⟨#[]⟩, rfl, rfl, ⟨Nat.le_refl _, .inl ⟨rfl, rfl⟩⟩, Below.refl _ _⟩
  case round =>
    obtain ⟨q, t, rfl, rfl, hR, hB⟩ := hrel
    have hqn := hR.kn
    have hts : t.size ≤ n + 1 := by
      rcases hR.ok with ⟨h1, h2⟩ | ⟨_, _, h3⟩
      · have e : t.data.toList.length = t.size := Array.length_toList
        rw [h1] at e
        have : t.size = 0 := by simpa using e.symm
        omega
      · omega
    by_cases hc : 0 < q ∨ t.data.toList = []
    · have HR := Lib.hid (hR.step hc)
      have HC := Lib.hid hc
      obtain ⟨c, hcd⟩ : ∃ c, digB q = c := ⟨_, rfl⟩
      have hcn : (c.toNat : Int) = 48 + (q : Int) % 10 := by rw [← hcd, digB_nat]; omega
      have hu8 : IntKind.u8.wrap (48 + (q : Int) % 10) = (c.toNat : Int) := by rw [hcn, IntKind.wrap_u8']; omega
      rw [hcd] at HR
      have kb := byte_back (wr.alloc (.cells #[.int .u8 c.toNat] 5)) wr.heap.size c (by simp [go_sem])
      have hn1 : ¬ (9223372036854775807 < 1 + t.size) := by omega
      clear hR hcd hcn
      by_cases h0 : 0 < q
      · have hd : decide ((0 : Int) < (q : Int)) = true := by simp; omega
        clear hc
        go_wp2
        go_roundw
        case rel => exact ⟨q / 10, _, by go_num, rfl, HR.out, bal hB _⟩
        case measure =>
          simp [intOf]
          split <;> omega
      · have hte : t.data.toList = [] := by rcases hc with h | h; exact absurd h h0; exact h
        have hq0 : q = 0 := by omega
        subst hq0
        have hd : decide ((0 : Int) < ((0 : Nat) : Int)) = false := by simp
        obtain rfl : t = ⟨#[]⟩ := by obtain ⟨a⟩ := t; have : a = #[] := Array.toList_inj.1 hte; rw [this]
        have hc48 : c = 48 := by
          apply UInt8.toNat_inj.1
          have h48 : IntKind.u8.wrap (48 + ((0 : Nat) : Int) % 10) = 48 := by rw [IntKind.wrap_u8']; rfl
          rw [h48] at hu8
          show c.toNat = 48
          omega
        subst hc48
        have kb0 : (convert 67 9 (.slice (some ⟨wr.heap.size, 0, none⟩) 1 1)).run Tryd.prog (wr.alloc (.cells #[.int .u8 48] 5)) = .ok (.string ⟨[48].toArray⟩) (wr.alloc (.cells #[.int .u8 48] 5)) := kb
        clear hc hte kb hu8
        go_wp2
        go_roundw
        case rel => exact ⟨0, _, by go_num, rfl, HR.out, bal hB _⟩
        case measure => simp [intOf]
    · have hq0 : q = 0 := by omega
      have hte : t.data.toList ≠ [] := fun h => hc (.inr h)
      subst hq0
      have hfin := hR.fin hte
      have hd : decide ((0 : Int) < ((0 : Nat) : Int)) = false := by simp
      have hem2 : t.toList.isEmpty = false := by
        rw [ByteArray.toList_eq]
        cases hl : t.data.toList with
        | nil => exact absurd hl hte
        | cons a l => rfl
      have HF := Lib.hid hfin
      clear hR hfin hc hte
      go_wp2
      go_ret
      exact ⟨by rw [← HF.out]; rfl, hB⟩
set_option maxHeartbeats 2000000 in
set_option maxRecDepth 100000 in
theorem digits_any (n : Nat) (hn : n < 4611686018427387904) (w : World) : Calls Tryd.prog 47 #[.int .i64 (n : Int)] w fun r w' => r = .returned (.string (itoaB (n : Int))) ∧ Below w.heap.size w w' := by
  go_enter Tryd.func47, Tryd.ntmps47
  go_wp2
  go_loopw [3, 4] (fun s k wr => ∃ (q : Nat) (t : ByteArray), k = .int .i64 (q : Int) ∧ s = .string t ∧ NumRel n q t ∧ Below w.heap.size w wr) (fun s k _ => 2 * (intOf k).toNat + (match s with | .string t => if t.data.toList = [] then 1 else 0 | _ => 0))
  case atStart => exact ⟨n, ⟨#[]⟩, rfl, rfl, ⟨Nat.le_refl _, .inl ⟨rfl, rfl⟩⟩, Below.refl _ _⟩
  case round =>
    obtain ⟨q, t, rfl, rfl, hR, hB⟩ := hrel
    have hqn := hR.kn
    have hts : t.size ≤ n + 1 := by
      rcases hR.ok with ⟨h1, h2⟩ | ⟨_, _, h3⟩
      · have e : t.data.toList.length = t.size := Array.length_toList
        rw [h1] at e
        have : t.size = 0 := by simpa using e.symm
        omega
      · omega
    by_cases hc : 0 < q ∨ t.data.toList = []
    · have HR := Lib.hid (hR.step hc)
      have HC := Lib.hid hc
      obtain ⟨c, hcd⟩ : ∃ c, digB q = c := ⟨_, rfl⟩
      have hcn : (c.toNat : Int) = 48 + (q : Int) % 10 := by rw [← hcd, digB_nat]; omega
      have hu8 : IntKind.u8.wrap (48 + (q : Int) % 10) = (c.toNat : Int) := by rw [hcn, IntKind.wrap_u8']; omega
      rw [hcd] at HR
      have kb := byte_back (wr.alloc (.cells #[.int .u8 c.toNat] 5)) wr.heap.size c (by simp [go_sem])
      have hn1 : ¬ (9223372036854775807 < 1 + t.size) := by omega
      clear hR hcd hcn
      by_cases h0 : 0 < q
      · have hd : decide ((0 : Int) < (q : Int)) = true := by simp; omega
        clear hc
        go_wp2
        go_roundw
        case rel => exact ⟨q / 10, _, by go_num, rfl, HR.out, bal hB _⟩
        case measure =>
          simp [intOf]
          split <;> omega
      · have hte : t.data.toList = [] := by rcases hc with h | h; exact absurd h h0; exact h
        have hq0 : q = 0 := by omega
        subst hq0
        have hd : decide ((0 : Int) < ((0 : Nat) : Int)) = false := by simp
        obtain rfl : t = ⟨#[]⟩ := by obtain ⟨a⟩ := t; have : a = #[] := Array.toList_inj.1 hte; rw [this]
        have hc48 : c = 48 := by
          apply UInt8.toNat_inj.1
          have h48 : IntKind.u8.wrap (48 + ((0 : Nat) : Int) % 10) = 48 := by rw [IntKind.wrap_u8']; rfl
          rw [h48] at hu8
          show c.toNat = 48
          omega
        subst hc48
        have kb0 : (convert 67 9 (.slice (some ⟨wr.heap.size, 0, none⟩) 1 1)).run Tryd.prog (wr.alloc (.cells #[.int .u8 48] 5)) = .ok (.string ⟨[48].toArray⟩) (wr.alloc (.cells #[.int .u8 48] 5)) := kb
        clear hc hte kb hu8
        go_wp2
        go_roundw
        case rel => exact ⟨0, _, by go_num, rfl, HR.out, bal hB _⟩
        case measure => simp [intOf]
    · have hq0 : q = 0 := by omega
      have hte : t.data.toList ≠ [] := fun h => hc (.inr h)
      subst hq0
      have hfin := hR.fin hte
      have hd : decide ((0 : Int) < ((0 : Nat) : Int)) = false := by simp
      have hem2 : t.toList.isEmpty = false := by
        rw [ByteArray.toList_eq]
        cases hl : t.data.toList with
        | nil => exact absurd hl hte
        | cons a l => rfl
      have HF := Lib.hid hfin
      clear hR hfin hc hte
      go_wp2
      go_ret
      exact ⟨by rw [← HF.out]; rfl, hB⟩
end Go.Proofs.YthebahahpkficaaDoor
