/- The walks of package rangeproof, first part: inGroup, inField, reduce, textOf, challenge, random, divided. -/
import Derived.Test.YthebahahpkficaaDoorCmW3
import Derived.Test.YthebahahpkficaaDoorApp
import Derived.Test.YthebahahpkficaaDoorTabs
import Derived.Test.YthebahahpkficaaDoorRpMath
import Derived.Test.YthebahahpkficaaDoorDigWalks
import Derived.Lib.Join
namespace Go.Proofs.YthebahahpkficaaDoor
open Go.RowKit
set_option linter.unusedVariables false
theorem inGroup_v (b e v : Int) (w : World) (hb0 : 0 ≤ b) (hb1 : b < 2147483579) (he0 : 0 ≤ e) (he1 : e ≤ 9223372036854775807) (hv : Hid (pwI b e = v)) :
    Calls Tryd.prog 35 #[.int .i64 e, .int .i64 b] w fun r w' => r = .returned (.int .i64 v) ∧ Below w.heap.size w w' := by
  go_enter Tryd.func35, Tryd.ntmps35
  go_wp2_with fail
  refine (power_v b e v _ hb0 hb1 he0 he1 hv).mono ?_
  rintro r w' ⟨rfl, hB⟩
  go_wp2
  go_ret
  exact ⟨rfl, hB⟩
theorem reduce_any (n : Int) (w : World) (h0 : -9223372036854775808 ≤ n) (h1 : n ≤ 9223372036854775807) : Calls Tryd.prog 24 #[.int .i64 n] w fun r w' => r = .returned (.int .i64 (n % 1073741789)) ∧ w = w' := by
  have hm : 0 ≤ n.tmod 1073741789 + 1073741789 ∧ n.tmod 1073741789 + 1073741789 ≤ 2147483578 := by
    rcases Int.le_total 0 n with h | h
    · rw [Int.tmod_eq_emod_of_nonneg h]; omega
    · have h2 : 0 ≤ -n := by omega
      have h3 : n.tmod 1073741789 = -((-n).tmod 1073741789) := by rw [Int.neg_tmod]; omega
      rw [h3, Int.tmod_eq_emod_of_nonneg h2]; omega
  have he : (n.tmod 1073741789 + 1073741789) % 1073741789 = n % 1073741789 := by
    rcases Int.le_total 0 n with h | h
    · rw [Int.tmod_eq_emod_of_nonneg h]; omega
    · have h2 : 0 ≤ -n := by omega
      have h3 : n.tmod 1073741789 = -((-n).tmod 1073741789) := by rw [Int.neg_tmod]; omega
      rw [h3, Int.tmod_eq_emod_of_nonneg h2]; omega
  obtain ⟨t, ht⟩ : ∃ t, n.tmod 1073741789 = t := ⟨_, rfl⟩
  rw [ht] at hm he
  have HE := Lib.hid he
  clear he
  go_enter Tryd.func24, Tryd.ntmps24
  go_wp2
  go_ret
  exact ⟨by rw [← HE.out]; rfl, rfl⟩
def intV (xs : List Int) : List Value := xs.map fun x => Value.int .i64 x
theorem intV_get (xs : List Int) (j : Nat) (h : j < xs.length) : (intV xs)[j]? = some (.int .i64 (xs.getD j 0)) := by
  simp [intV, h, List.getD]
theorem info_string : (Tryd.prog.info? 9).map (fun i => (i.zero, i.size, i.bytes)) = some (some (.string ⟨#[]⟩), 1, 16) := by kernel_rfl
theorem strV_snoc (l : List ByteArray) (x : ByteArray) : strV (l ++ [x]) = strV l ++ [.string x] := by simp [strV]
theorem itoas_snoc (xs : List Int) (k : Nat) (h : k < xs.length) : (xs.map itoaB).take (k + 1) = (xs.map itoaB).take k ++ [itoaB (xs.getD k 0)] := by
  rw [List.take_succ_eq_append_getElem (by simpa using h)]
  simp [List.getD, h]
def textB (xs : List Int) : ByteArray := ⟨(Lib.join (xs.map Lib.itoa) [32]).toArray⟩
set_option maxHeartbeats 2000000 in
set_option maxRecDepth 100000 in
theorem textOf_any (A : Option Addr) (c : Nat) (xs : List Int) (w : World) (hT : PTab w) (hA : Sl w w.heap.size 1 A xs.length (intV xs)) (h1 : 1 ≤ xs.length) (hn : xs.length ≤ 100)
    (hx : ∀ x ∈ xs, -9223372036854775808 ≤ x ∧ x ≤ 9223372036854775807) (hlen : (Lib.join (xs.map Lib.itoa) [32]).length ≤ 140737488355328) :
    Calls Tryd.prog 43 #[.slice A xs.length c] w fun e w' => e = .returned (.string (textB xs)) ∧ Below w.heap.size w w' := by
  obtain ⟨i0, hi0, hz0, hz1, hz2⟩ := info_parts info_string
  have HT := Lib.hid hT
  have Hx := Lib.hid hx
  have HL := Lib.hid hlen
  have HA := Lib.hid hA
  clear hT hx hlen hA
  go_enter Tryd.func43, Tryd.ntmps43
  go_wp2
  go_loopw [3, 8] (fun v i wr => ∃ k : Nat, k ≤ xs.length ∧ i = .int .i64 k ∧ wr.ownsRow w.heap.size 9 1 v k (strV ((xs.map itoaB).take k)) ∧ Below w.heap.size w wr) (fun _ i _ => xs.length - (intOf i).toNat)
  case atStart => exact ⟨0, Nat.zero_le _, rfl, ⟨rfl, .inl ⟨rfl, rfl⟩⟩, Below.refl _ _⟩
  case round =>
    obtain ⟨k, hk, rfl, hown, hB⟩ := hrel
    have Hown := Lib.hid hown
    clear hown
    by_cases hlt : k < xs.length
    · obtain ⟨b, off, rfl, hb, hcell⟩ := (HA.out).2 (by omega)
      have hc : wr.cell? ⟨b, off + k, none⟩ = some (.int .i64 (xs.getD k 0)) := (hB.cell (p := ⟨b, off + k, none⟩) hb).trans (hcell k _ (intV_get xs k hlt))
      have hmem : xs.getD k 0 ∈ xs := by simp [List.getD, hlt]
      have hbd := Hx.out _ hmem
      have HS := Lib.hid (itoas_snoc xs k hlt)
      obtain ⟨x, hxe⟩ : ∃ x, xs.getD k 0 = x := ⟨_, rfl⟩
      rw [hxe] at hc hbd HS
      obtain ⟨t, ht⟩ : ∃ t, itoaB x = t := ⟨_, rfl⟩
      rw [ht] at HS
      have Ht := Lib.hid ht
      clear hcell hmem hxe ht
      go_wp2_with fail
      refine (itoa_any x hbd.1 hbd.2 t Ht _ (HT.out.go hB)).mono ?_
      rintro e w1 ⟨rfl, hB1⟩
      have hBn := bgo hB hB1
      have Hown1 := Lib.hid (own_below Hown.out hB1)
      go_wp2_with (at_builtin; refine app_one rfl _ _ 79 rfl 9 i0 (.string ⟨#[]⟩) 1 16 Tryd.underlying79 hi0 hz0 hz1 hz2 rfl (by decide) _ k _ rfl Hown1.out hBn [.string t] _ _ rfl rfl (by simp [Value.oneCell']) (by unfold maxLen; omega) (by omega) ?_)
      intro v' w2 hown2 hB2 _
      have HO := Lib.hid hown2
      clear hown2 hB hB1 hBn
      go_wp2
      go_roundw
      case rel => exact ⟨k + 1, by omega, by go_num, by rw [HS.out, strV_snoc]; exact HO.out, hB2⟩
      case measure => simp [intOf]; omega
    · obtain rfl : k = xs.length := by omega
      have hE : (xs.map itoaB).take xs.length = xs.map itoaB := List.take_of_length_le (by simp)
      rw [hE] at Hown
      obtain ⟨g, cap, hv⟩ : ∃ g cap, u3 = .slice (some ⟨g, 0, none⟩) xs.length cap := by
        obtain ⟨n', hn'⟩ : ∃ n', xs.length = n' + 1 := ⟨xs.length - 1, by omega⟩
        have := Hown.out
        rw [hn'] at this ⊢
        exact ownsRow_succ this
      subst hv
      clear hE
      have hgl := Hown.out.lt g rfl
      have hcl : ∀ (j : Nat) y, (xs.map itoaB)[j]? = some y → wr.cell? ⟨g, 0 + j, none⟩ = some (.string y) := by
        intro j y hy
        rw [Nat.zero_add]
        have hj : j < xs.length := by
          have := (List.getElem?_eq_some_iff.1 hy).1
          simp at this; omega
        have := Hown.out.cellAt j (by omega)
        rw [this]
        simp only [strV, List.getElem?_map] at hy ⊢
        cases hq : xs[j]? with
        | none => rw [hq] at hy; cases hy
        | some q => rw [hq] at hy; simp at hy ⊢; rw [hy]
      have hmap : (xs.map itoaB).map (fun x => x.data.toList) = xs.map Lib.itoa := by
        rw [List.map_map]
        exact List.map_congr_left (fun x _ => rfl)
      have hcapk : xs.length ≤ cap := by
        rcases Hown.out.2 with ⟨h0, _⟩ | ⟨g', cap', cur, hv, h1', h2', h3', h4', _⟩
        · cases h0
        · cases hv; exact h3'
      have hcal := Tryd.strings_Join g 0 cap (xs.map itoaB) ⟨#[32]⟩ wr hcl hgl.2 (by simp; omega) (by simp; omega) (by rw [hmap]; exact HL.out)
      have hfin : (⟨(Lib.join ((xs.map itoaB).map (fun x => x.data.toList)) (⟨#[32]⟩ : ByteArray).data.toList).toArray⟩ : ByteArray) = textB xs := by rw [hmap]; rfl
      rw [hfin, List.length_map] at hcal
      have HC := Lib.hid hcal
      clear hcal hfin hcapk hmap hcl
      go_wp2_with fail
      refine HC.out.mono ?_
      rintro e w2 ⟨rfl, hB2⟩
      go_wp2
      go_ret
      exact ⟨rfl, bgo hB hB2⟩
end Go.Proofs.YthebahahpkficaaDoor
