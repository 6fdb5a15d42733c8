/- The walk of OnetimeReuse. -/
import Derived.Test.YthgkjcofmkkdcaaDoorOnHead
import Derived.Test.YthgkjcofmkkdcaaDoorApp2
import Derived.ChangeSlices
import Derived.Test.YthgkjcofmkkdcaaDoorMkOpen
namespace Go.On
theorem pairAt_ext {is : List Int} {ts : List ByteArray} {n : Nat} (hi : is.length = n) (ht : ts.length = n) (x : Int) (t : ByteArray) {i j : Nat} (hj : j < n) : pairAt (is ++ [x]) (ts ++ [t]) i j ↔ pairAt is ts i j := by
  unfold pairAt
  constructor
  · rintro ⟨h1, h2, h3⟩
    refine ⟨h1, ?_, ?_⟩
    · simpa [List.getD, List.getElem?_append_left (show i < is.length by omega), List.getElem?_append_left (show j < is.length by omega)] using h2
    · simpa [List.getD, List.getElem?_append_left (show i < ts.length by omega), List.getElem?_append_left (show j < ts.length by omega)] using h3
  · rintro ⟨h1, h2, h3⟩
    refine ⟨h1, ?_, ?_⟩
    · simpa [List.getD, List.getElem?_append_left (show i < is.length by omega), List.getElem?_append_left (show j < is.length by omega)] using h2
    · simpa [List.getD, List.getElem?_append_left (show i < ts.length by omega), List.getElem?_append_left (show j < ts.length by omega)] using h3
theorem Reu.ext {is : List Int} {ts : List ByteArray} {n : Nat} (hi : is.length = n) (ht : ts.length = n) (x : Int) (t : ByteArray) {i j : Nat} (h : Reu is ts n (some (i, j))) : Reu (is ++ [x]) (ts ++ [t]) (n + 1) (some (i, j)) := by
  obtain ⟨h1, h2, h3, h4⟩ := h
  refine ⟨by omega, (pairAt_ext hi ht x t h1).2 h2, fun i' j' hj hp => h3 i' j' hj ((pairAt_ext hi ht x t (by omega)).1 hp), fun i' hi' hp => h4 i' hi' ((pairAt_ext hi ht x t h1).1 hp)⟩
end Go.On
namespace Go.Proofs.YthgkjcofmkkdcaaDoor
open Go.RowKit Go.Shelf
set_option linter.unusedVariables false
set_option maxRecDepth 100000
def u8Z (zs : List Int) : List Value := zs.map (Value.int .u8)
theorem u8Z_get (zs : List Int) (k : Nat) (h : k < zs.length) : (u8Z zs)[k]? = some (.int .u8 (zs.getD k 0)) := by simp [u8Z, h, List.getD]
theorem cells_u8 : Tryd.prog.cellsOf 5 = 1 := by kernel_rfl
open Go.ChangeShapes Go.WideShapes in
theorem sl_u8s {H : Type} {enc : TypeId × Value → H} {W : World} {base : Nat} {v : Value} {d : DataW H} {p : List MemPlace} (hv : Value.okWide Tryd.prog W .any base 55 v) (h : DataW.Trod enc Tryd.prog W 0 (fun _ => true) true 55 v d p) :
    ∃ (A : Option Addr) (c : Nat) (zs : List Int), v = .slice A zs.length c ∧ Sl W W.heap.size 1 A zs.length (u8Z zs) ∧ (zs.length ≤ c ∧ c ≤ maxLen) ∧ (∀ z ∈ zs, (Lit.int .u8 z).wf = true) := by
  obtain ⟨a0, len, cap, rfl⟩ := okWide_slice Tryd.underlying55 hv
  obtain ⟨fuel, hf⟩ := h
  rcases open_ints Tryd.underlying55 Tryd.underlying5 cells_u8 hf with ⟨hcs, hx⟩ | ⟨a, len', cap', zs, hcs, _, hl, hm, hz, hx, hcell, hws⟩
  · simp [Value.cells] at hcs
    obtain ⟨rfl, rfl, rfl⟩ := hcs
    exact ⟨none, 0, [], rfl, Sl.nil _ 1, ⟨Nat.le_refl _, Nat.zero_le _⟩, fun s h => by cases h⟩
  · simp [Value.cells] at hcs
    obtain ⟨rfl, rfl, rfl⟩ := hcs
    simp only [if_true] at hz
    have ht : (zs.take len).length = len := by rw [List.length_take]; omega
    refine ⟨some a, cap, zs.take len, by rw [ht], ?_, ⟨by omega, by omega⟩, fun s h => hws s (List.mem_of_mem_take h)⟩
    refine sl_of_row (by simp [u8Z]) (fun _ => Nat.one_pos) ?_
    intro j u hu
    obtain ⟨hj, e⟩ := List.getElem?_eq_some_iff.1 hu
    have hj' : j < len := by simp [u8Z] at hj; omega
    rw [hcell j (by omega), ← e]
    simp [u8Z, List.getD, show j < zs.length by omega]
open Go.ChangeShapes Go.WideShapes in
theorem sl_strs2 {H : Type} {enc : TypeId × Value → H} {W : World} {base : Nat} {v : Value} {d : DataW H} {p : List MemPlace} (hv : Value.okWide Tryd.prog W .any base 28 v) (h : DataW.Trod enc Tryd.prog W 0 (fun _ => true) true 28 v d p) :
    ∃ (A : Option Addr) (c : Nat) (ss : List ByteArray), v = .slice A ss.length c ∧ Sl W W.heap.size 1 A ss.length (strV ss) ∧ (ss.length ≤ c ∧ c ≤ maxLen) ∧ (∀ s ∈ ss, s.size ≤ maxLen) ∧ Src W 1 (.slice A ss.length c) ss.length (strV ss) := by
  obtain ⟨a0, len, cap, rfl⟩ := okWide_slice Tryd.underlying28 hv
  obtain ⟨fuel, hf⟩ := h
  rcases open_strings Tryd.underlying28 Tryd.underlying9 cells_string hf with ⟨hcs, hx⟩ | ⟨a, len', cap', ss, hcs, _, hl, hm, hz, hx, hcell, hws⟩
  · simp [Value.cells] at hcs
    obtain ⟨rfl, rfl, rfl⟩ := hcs
    exact ⟨none, 0, [], rfl, Sl.nil _ 1, ⟨Nat.le_refl _, Nat.zero_le _⟩, (fun s h => by cases h), .inl ⟨rfl, rfl, rfl⟩⟩
  · simp [Value.cells] at hcs
    obtain ⟨rfl, rfl, rfl⟩ := hcs
    simp only [if_true] at hz
    have ht : (ss.take len).length = len := by rw [List.length_take]; omega
    have hrow : ∀ j u, (strV (ss.take len))[j]? = some u → W.cell? (a.add j) = some u := by
      intro j u hu
      obtain ⟨hj, e⟩ := List.getElem?_eq_some_iff.1 hu
      have hj' : j < len := by simp [strV] at hj; omega
      rw [hcell j (by omega), ← e]
      simp [strV, List.getD, show j < ss.length by omega]
    exact ⟨some a, cap, ss.take len, by rw [ht], sl_of_row (by simp [strV]) (fun _ => Nat.one_pos) hrow, ⟨by omega, by omega⟩, fun s h => hws s (List.mem_of_mem_take h), .inr ⟨a, cap, by rw [ht], by simp [strV], hrow⟩⟩
theorem info_sig : (Tryd.prog.info? 27).map (fun i => (i.zero, i.size, i.bytes)) = some (some (.agg #[.int .i64 0, .slice none 0 0, .slice none 0 0]), 3, 56) := by kernel_rfl
def sgs (zs : List Int) (k : Nat) : Sigs := (zs.take k).map fun z => hG (z % 8)
theorem sgs_len (zs : List Int) (k : Nat) (h : k ≤ zs.length) : (sgs zs k).length = k := by simp [sgs]; omega
theorem sigsV_app (l m : Sigs) : sigsV (l ++ m) = sigsV l ++ sigsV m := by
  induction l with
  | nil => rfl
  | cons x l ih => simp [sigsV, ih]
theorem sgs_snoc (zs : List Int) (k : Nat) (h : k < zs.length) : sgs zs (k + 1) = sgs zs k ++ [hG (zs.getD k 0 % 8)] := by
  rw [sgs, sgs, List.take_succ_eq_append_getElem h, List.map_append]
  simp [List.getD, h]
theorem sgs_get (zs : List Int) (n k : Nat) (hn : n ≤ zs.length) (h : k < n) : (sgs zs n)[k]'(by rw [sgs_len _ _ hn]; exact h) = hG (zs.getD k 0 % 8) := by
  simp [sgs, List.getD, show k < zs.length by omega]
theorem wf_u8 {z : Int} (h : (Lit.int .u8 z).wf = true) : 0 ≤ z ∧ z ≤ 255 := by have := bounds_u8 h; omega
theorem sgs_wf (zs : List Int) (k : Nat) : ∀ x ∈ sgs zs k, (Lit.int .i64 x.i).wf = true := by
  intro x hx
  obtain ⟨z, _, rfl⟩ := List.mem_map.1 hx
  show (Lit.int .i64 (z % 8)).wf = true
  exact WalkArith.wf_i64 (by omega)
theorem one_cells (l : Sigs) : ∀ u ∈ sigsV l, u.oneCell' = true := by
  induction l with
  | nil => intro u h; cases h
  | cons x l ih =>
    intro u h
    simp only [sigsV, List.mem_cons] at h
    rcases h with rfl | rfl | rfl | h
    · rfl
    · rfl
    · rfl
    · exact ih u h
set_option maxHeartbeats 4000000 in
theorem reuse_main (A : Option Addr) (ca n m : Nat) (ss : List ByteArray) (hn : ss.length = n) (A' : Option Addr) (cb : Nat) (zs : List Int) (hzl : zs.length = m) (more : ByteArray) (w : World) (hA : Sl w w.heap.size 1 A n (strV ss))
    (hA' : Sl w w.heap.size 1 A' m (u8Z zs)) (hzs : ∀ z ∈ zs, (Lit.int .u8 z).wf = true) (hm : more.size ≤ maxLen) (hT : OTabs w) (hsrc : Src w 1 (.slice A n ca) n (strV ss)) (h40 : n ≤ 40) (hle : n ≤ m) (hl2 : m ≤ 9223372036854775807) :
    Calls Tryd.prog 7 #[.slice A n ca, .slice A' m cb, .string more] w fun e w' => e = .returned (.bool true) ∧ Below w.heap.size w w' := by
  have HA := Lib.hid hA
  have HA' := Lib.hid hA'
  have Hz := Lib.hid hzs
  obtain ⟨i0, hi0, hz0, hz1, hz2⟩ := info_parts info_sig
  obtain ⟨j0, hj0, hy0, hy1, hy2⟩ := info_parts info_string
  have d1 : decide ((40 : Int) < (n : Int)) = false := decide_eq_false (by omega)
  have d2 : decide (m < n) = false := decide_eq_false (by omega)
  have d3 : decide ((m : Int) < (n : Int)) = false := decide_eq_false (by omega)
  clear hA hA' hzs
  go_enter Tryd.func7, Tryd.ntmps7
  go_wp2_with fail
  refine (head_any _ hT).mono ?_
  rintro e w1 ⟨rfl, hB1⟩
  have HA1 := Lib.hid (HA.out.go hB1)
  have HA1' := Lib.hid (HA'.out.go hB1)
  clear HA HA'
  go_wp2
  go_loopw [8, 33] (fun v i wr => ∃ k : Nat, k ≤ n ∧ i = .int .i64 k ∧ wr.ownsRow w1.heap.size 27 3 v k (sigsV (sgs zs k)) ∧ Below w1.heap.size w1 wr) (fun _ i _ => n - (intOf i).toNat)
  case atStart => exact ⟨0, Nat.zero_le _, rfl, ⟨rfl, .inl ⟨rfl, rfl⟩⟩, Below.refl _ _⟩
  case round =>
    clear d1 d2 d3
    obtain ⟨k, hk, rfl, hown, hB⟩ := hrel
    have Hown := Lib.hid hown
    clear hown
    by_cases hlt : k < n
    · have hlt' : (k : Int) < (n : Int) := by omega
      obtain ⟨b, off, rfl, hb, hcell⟩ := HA1'.out.2 (by omega)
      have hc : wr.cell? ⟨b, off + k, none⟩ = some (.int .u8 (zs.getD k 0)) := (hB.cell (p := ⟨b, off + k, none⟩) hb).trans (hcell k _ (u8Z_get zs k (by omega)))
      have hkz : k < zs.length := by omega
      have hw := Hz.out (zs.getD k 0) (by simp [List.getD, hkz])
      obtain ⟨z, hz⟩ : ∃ z, z = zs.getD k 0 := ⟨_, rfl⟩
      rw [← hz] at hc hw
      obtain ⟨hw0, hw1⟩ := wf_u8 hw
      have HZ := Lib.hid hz
      have hltz : (k : Int) < (m : Int) := by omega
      have hltz' : k < m := by omega
      clear hcell hz hw
      go_wp2_with (at_builtin; refine app_one rfl _ _ 29 rfl 27 i0 _ 3 56 Tryd.underlying29 hi0 hz0 hz1 hz2 rfl (by decide) _ _ _ rfl Hown.out hB [.int .i64 (z % 8), .slice none 0 0, .slice none 0 0] _ _ rfl rfl ?c2 ?c3 ?c4 ?_)
      case c2 => simp [Value.oneCell']
      case c3 => simp [maxLen]; omega
      case c4 => omega
      intro v' w2 hown2 hB2 _
      have HR := Lib.hid hown2
      clear hown2
      go_wp2
      go_roundw
      case rel =>
        refine ⟨k + 1, by omega, by go_num, ?_, hB2⟩
        rw [sgs_snoc zs k hkz, sigsV_app, ← HZ.out]
        exact HR.out
      case measure => simp [intOf]; omega
    · obtain rfl : n = k := by omega
      obtain ⟨S, cS, rfl, hSl⟩ := own_slice Hown.out
      have hsS := own_src Hown.out
      have hsT := hsrc.go (bgo hB1 hB)
      have HT := Lib.hid (HA1.out.go hB)
      have HS := Lib.hid hSl
      clear hSl HA1' Hown
      have hBw := bgo hB1 hB
      go_wp2_with fail
      refine (reused_ok A S ca cS n ss (sgs zs n) hn (sgs_len zs n (by omega)) _ HT.out HS.out (by omega) (sgs_wf zs n)).mono ?_
      rintro e w2 ⟨o, he, ho, hB2⟩
      have HT2 := Lib.hid (HT.out.go hB2)
      have HS2 := Lib.hid (HS.out.go hB2)
      have hBw2 := bgo hBw hB2
      have HrS := Lib.hid (hsS.go hB2)
      have HrT := Lib.hid (hsT.go hB2)
      clear hsS hsT
      clear HT HS HA1 hB hB1 hB2 hBw
      have Ho := Lib.hid ho
      clear ho
      rcases o with _ | ⟨i, j⟩
      · have he' : e = .returned (.tuple #[.int .i64 0, .int .i64 0, .bool false]) := he
        subst he'
        have HP := Lib.hid (show ∀ i j, j < n → ¬ On.pairAt (idxs (sgs zs n)) ss i j from Ho.out)
        go_wp2
        go_loopw [96] (fun q wr => ∃ a : Nat, a ≤ n ∧ q = .int .i64 (a : Int) ∧ Below w2.heap.size w2 wr) (fun q _ => n - (intOf q).toNat)
        case atStart => exact ⟨0, Nat.zero_le _, rfl, Below.refl _ _⟩
        case round =>
          obtain ⟨a, ha, rfl, hBr⟩ := hrel
          by_cases hlt : a < n
          · have hlt' : (a : Int) < (n : Int) := by omega
            go_wp2
            go_loopw [100] (fun q wr => ∃ b : Nat, b ≤ a ∧ q = .int .i64 (b : Int) ∧ Below w2.heap.size w2 wr) (fun q _ => a - (intOf q).toNat)
            case atStart => exact ⟨0, Nat.zero_le _, rfl, hBr⟩
            case round =>
              obtain ⟨c, hc, rfl, hBq⟩ := hrel
              by_cases hca : c < a
              · have hca' : (c : Int) < (a : Int) := by omega
                obtain ⟨b1, o1, rfl, hb1, hcell1⟩ := HT2.out.2 (by omega)
                obtain ⟨b2, o2, rfl, hb2, hcell2⟩ := HS2.out.2 (by omega)
                have hal : a < (sgs zs n).length := by rw [sgs_len _ _ (by omega)]; omega
                have hcl : c < (sgs zs n).length := by rw [sgs_len _ _ (by omega)]; omega
                have x1 : wr.cell? ⟨b2, o2 + a * 3, none⟩ = some (.int .i64 ((idxs (sgs zs n)).getD a 0)) := (hBq.cell (p := ⟨b2, o2 + a * 3, none⟩) hb2).trans (by rw [idxs_get _ _ hal]; exact hcell2 _ _ (sigsV_get _ a hal).1)
                have x2 : wr.cell? ⟨b2, o2 + c * 3, none⟩ = some (.int .i64 ((idxs (sgs zs n)).getD c 0)) := (hBq.cell (p := ⟨b2, o2 + c * 3, none⟩) hb2).trans (by rw [idxs_get _ _ hcl]; exact hcell2 _ _ (sigsV_get _ c hcl).1)
                have y1 : wr.cell? ⟨b1, o1 + a, none⟩ = some (.string (ss.getD a ⟨#[]⟩)) := (hBq.cell (p := ⟨b1, o1 + a, none⟩) hb1).trans (hcell1 a _ (strV_get ss a (by omega)))
                have y2 : wr.cell? ⟨b1, o1 + c, none⟩ = some (.string (ss.getD c ⟨#[]⟩)) := (hBq.cell (p := ⟨b1, o1 + c, none⟩) hb1).trans (hcell1 c _ (strV_get ss c (by omega)))
                have hnp := HP.out c a hlt
                unfold On.pairAt at hnp
                obtain ⟨e1, he1⟩ : ∃ e1, (idxs (sgs zs n)).getD a 0 = e1 := ⟨_, rfl⟩
                obtain ⟨e2, he2⟩ : ∃ e2, (idxs (sgs zs n)).getD c 0 = e2 := ⟨_, rfl⟩
                obtain ⟨t1, ht1⟩ : ∃ t1, ss.getD a ⟨#[]⟩ = t1 := ⟨_, rfl⟩
                obtain ⟨t2, ht2⟩ : ∃ t2, ss.getD c ⟨#[]⟩ = t2 := ⟨_, rfl⟩
                rw [he1] at x1 hnp
                rw [he2] at x2 hnp
                rw [ht1] at y1 hnp
                rw [ht2] at y2 hnp
                have han : (a : Int) < (n : Int) := by omega
                have han' : a < n := by omega
                have hcn : (c : Int) < (n : Int) := by omega
                have hcn' : c < n := by omega
                clear hcell1 hcell2 he1 he2 ht1 ht2 hal hcl
                by_cases hee : e1 = e2
                · subst hee
                  by_cases htt : t1 = t2
                  · subst htt
                    clear hnp
                    go_wp2
                    go_region
                    go_wp2
                    go_roundw
                    case rel => exact ⟨c + 1, by omega, by go_num, hBq.drew⟩
                    case measure => simp [intOf]; omega
                  · exact absurd ⟨hca, rfl, fun e => htt e.symm⟩ hnp
                · have hee' : (e1 == e2) = false := beq_eq_false_iff_ne.2 hee
                  clear hnp hee
                  go_wp2
                  go_region
                  go_wp2
                  go_roundw
                  case rel => exact ⟨c + 1, by omega, by go_num, hBq.drew⟩
                  case measure => simp [intOf]; omega
              · obtain rfl : c = a := by omega
                go_wp2
                go_roundw
                case rel => exact ⟨c + 1, by omega, by go_num, hBq⟩
                case measure => simp [intOf]; omega
          · obtain rfl : n = a := by omega
            have hSr := HS2.out.go hBr
            have hTr := HT2.out.go hBr
            have srcT := HrT.out.go hBr
            have srcS := HrS.out.go hBr
            have e1 := own_empty wr 9 9 1 rfl
            have hBe := bal (Below.refl wr.heap.size wr) (.cells #[] 9)
            have hBwr := bgo hBw2 hBr
            clear hSr hTr
            go_wp2_with (at_builtin; refine app_src (w0 := wr) rfl _ _ 28 rfl 9 j0 (.string ⟨#[]⟩) 1 16 Tryd.underlying28 hj0 hy0 hy1 hy2 rfl (by decide) _ 0 [] rfl e1 hBe _ n (strV ss) rfl (srcT.al _) ?c1 ?c2 ?c3 ?_)
            case c1 => intro u hu; obtain ⟨s, _, rfl⟩ := List.mem_map.1 hu; rfl
            case c2 => simp [maxLen]; omega
            case c3 => omega
            intro v1 W2 hown1 hB3 _
            try rw [Nat.zero_add] at hown1
            try rw [List.nil_append] at hown1
            clear e1 hBe srcT
            go_wp2_with (at_builtin; refine app_one rfl _ _ 28 rfl 9 j0 (.string ⟨#[]⟩) 1 16 Tryd.underlying28 hj0 hy0 hy1 hy2 rfl (by decide) _ _ _ rfl hown1 hB3 [.string more] _ _ rfl rfl ?c1 ?c2 ?c3 ?_)
            case c1 => simp [Value.oneCell']
            case c2 => simp [maxLen]; omega
            case c3 => omega
            intro v2 W4 hown2 hB4 _
            have Hown2 := Lib.hid hown2
            have e3 := own_empty W4 27 27 3 rfl
            have hBe := bal (Below.refl W4.heap.size W4) (.cells #[] 27)
            have srcS4 := srcS.go hB4
            clear hown1 hown2 hB3 srcS
            go_wp2_with (at_builtin; refine app_src (w0 := W4) rfl _ _ 29 rfl 27 i0 _ 3 56 Tryd.underlying29 hi0 hz0 hz1 hz2 rfl (by decide) _ 0 [] rfl e3 hBe _ n (sigsV (sgs zs n)) rfl (srcS4.al _) (one_cells _) ?c2 ?c3 ?_)
            case c2 => simp [maxLen]; omega
            case c3 => omega
            intro v3 W6 hown3 hB6 _
            try rw [Nat.zero_add] at hown3
            try rw [List.nil_append] at hown3
            clear e3 hBe srcS4
            go_wp2_with (at_builtin; refine app_one rfl _ _ 29 rfl 27 i0 _ 3 56 Tryd.underlying29 hi0 hz0 hz1 hz2 rfl (by decide) _ _ _ rfl hown3 hB6 [.int .i64 3, .slice none 0 0, .slice none 0 0] _ _ rfl rfl ?c1 ?c2 ?c3 ?_)
            case c1 => simp [Value.oneCell']
            case c2 => simp [maxLen]; omega
            case c3 => omega
            intro v4 W8 hown4 hB8 _
            obtain ⟨A2, c2, rfl, hS2⟩ := own_slice (own_below Hown2.out hB8)
            obtain ⟨A4, c4, rfl, hS4⟩ := own_slice hown4
            have hBw8 := bgo (bgo hBwr hB4) hB8
            have F := Lib.hid (And.intro hS2 hS4)
            clear hown3 hB6 hown4 hS2 hS4 Hown2 hB4 hB8 hBwr
            go_wp2_with fail
            refine (reused_ok A2 A4 c2 c4 (n + 1) (ss ++ [more]) (sgs zs n ++ [hG 3]) (by rw [List.length_append, hn]; rfl) (by rw [List.length_append, sgs_len zs n (by omega)]; rfl) W8 (by have := F.out.1; rw [strV, List.map_append]; exact this) (by have := F.out.2; rw [sigsV_app]; exact this) (by omega) ?_).mono ?_
            · intro x hx
              rcases List.mem_append.1 hx with h | h
              · exact sgs_wf zs n x h
              · rw [List.mem_singleton.1 h]; rfl
            rintro e w9 ⟨o9, he9, ho9, hB9⟩
            have hBw9 := bgo hBw8 hB9
            clear F hBw8 hB9
            rcases o9 with _ | ⟨i9, j9⟩
            · have he' : e = .returned (.tuple #[.int .i64 0, .int .i64 0, .bool false]) := he9
              subst he'
              go_wp2_with fail
              go_ret
              exact ⟨rfl, hBw9⟩
            · have he' : e = .returned (.tuple #[.int .i64 (i9 : Int), .int .i64 (j9 : Int), .bool true]) := he9
              subst he'
              go_wp2_with fail
              go_ret
              exact ⟨rfl, hBw9⟩
      · have he' : e = .returned (.tuple #[.int .i64 (i : Int), .int .i64 (j : Int), .bool true]) := he
        subst he'
        obtain ⟨hjn, ⟨hij, hie, hit⟩, hp1, hp2⟩ := Ho.out
        obtain ⟨b1, o1, rfl, hb1, hcell1⟩ := HT2.out.2 (by omega)
        obtain ⟨b2, o2, rfl, hb2, hcell2⟩ := HS2.out.2 (by omega)
        have hal : i < (sgs zs n).length := by rw [sgs_len _ _ (by omega)]; omega
        have hcl : j < (sgs zs n).length := by rw [sgs_len _ _ (by omega)]; omega
        have x1 : w2.cell? ⟨b2, o2 + i * 3, none⟩ = some (.int .i64 ((idxs (sgs zs n)).getD i 0)) := by rw [idxs_get _ _ hal]; exact hcell2 _ _ (sigsV_get _ i hal).1
        have x2 : w2.cell? ⟨b2, o2 + j * 3, none⟩ = some (.int .i64 ((idxs (sgs zs n)).getD j 0)) := by rw [idxs_get _ _ hcl]; exact hcell2 _ _ (sigsV_get _ j hcl).1
        have y1 : w2.cell? ⟨b1, o1 + i, none⟩ = some (.string (ss.getD i ⟨#[]⟩)) := hcell1 i _ (strV_get ss i (by omega))
        have y2 : w2.cell? ⟨b1, o1 + j, none⟩ = some (.string (ss.getD j ⟨#[]⟩)) := hcell1 j _ (strV_get ss j (by omega))
        rw [hie] at x1
        obtain ⟨e1, he1⟩ : ∃ e1, (idxs (sgs zs n)).getD j 0 = e1 := ⟨_, rfl⟩
        obtain ⟨t1, ht1⟩ : ∃ t1, ss.getD i ⟨#[]⟩ = t1 := ⟨_, rfl⟩
        obtain ⟨t2, ht2⟩ : ∃ t2, ss.getD j ⟨#[]⟩ = t2 := ⟨_, rfl⟩
        rw [he1] at x1 x2
        rw [ht1] at y1 hit
        rw [ht2] at y2 hit
        have hne : (t1.toList == t2.toList) = false := beq_eq_false_iff_ne.2 (fun e => hit (bytes_ext e))
        have f1 : decide ((i : Int) < 0) = false := decide_eq_false (by omega)
        have f2 : decide ((j : Int) ≤ (i : Int)) = false := decide_eq_false (by omega)
        have f3 : decide ((n : Int) ≤ (j : Int)) = false := decide_eq_false (by omega)
        have f4 : decide (j ≤ i) = false := decide_eq_false (by omega)
        have f5 : decide (n ≤ j) = false := decide_eq_false (by omega)
        have g1 : (i : Int) < (n : Int) := by omega
        have g2 : i < n := by omega
        have g3 : (j : Int) < (n : Int) := by omega
        have HC1 := Lib.hid (And.intro hb1 hcell1)
        have HC2 := Lib.hid (And.intro hb2 hcell2)
        clear hal hcl he1 ht1 ht2 hit hcell1 hcell2 hie hp1 hp2 hb1 hb2
        go_wp2
        go_region
        have HP := Lib.hid (show ∀ i' j', j' < j → ¬ On.pairAt (idxs (sgs zs n)) ss i' j' from Ho.out.2.2.1)
        go_wp2
        go_loopw [96] (fun q wr => ∃ a : Nat, a ≤ j ∧ q = .int .i64 (a : Int) ∧ Below w2.heap.size w2 wr) (fun q _ => j - (intOf q).toNat)
        case atStart => exact ⟨0, Nat.zero_le _, rfl, (Below.refl _ _).drew⟩
        case round =>
          obtain ⟨a, ha, rfl, hBr⟩ := hrel
          by_cases hlt : a < j
          · have hlt' : (a : Int) < (j : Int) := by omega
            go_wp2
            go_loopw [100] (fun q wr => ∃ b : Nat, b ≤ a ∧ q = .int .i64 (b : Int) ∧ Below w2.heap.size w2 wr) (fun q _ => a - (intOf q).toNat)
            case atStart => exact ⟨0, Nat.zero_le _, rfl, hBr⟩
            case round =>
              obtain ⟨c, hc, rfl, hBq⟩ := hrel
              by_cases hca : c < a
              · have hca' : (c : Int) < (a : Int) := by omega
                obtain ⟨hb1, hcell1⟩ := HC1.out
                obtain ⟨hb2, hcell2⟩ := HC2.out
                have hal : a < (sgs zs n).length := by rw [sgs_len _ _ (by omega)]; omega
                have hcl : c < (sgs zs n).length := by rw [sgs_len _ _ (by omega)]; omega
                have x1 : wr.cell? ⟨b2, o2 + a * 3, none⟩ = some (.int .i64 ((idxs (sgs zs n)).getD a 0)) := (hBq.cell (p := ⟨b2, o2 + a * 3, none⟩) hb2).trans (by rw [idxs_get _ _ hal]; exact hcell2 _ _ (sigsV_get _ a hal).1)
                have x2 : wr.cell? ⟨b2, o2 + c * 3, none⟩ = some (.int .i64 ((idxs (sgs zs n)).getD c 0)) := (hBq.cell (p := ⟨b2, o2 + c * 3, none⟩) hb2).trans (by rw [idxs_get _ _ hcl]; exact hcell2 _ _ (sigsV_get _ c hcl).1)
                have y1 : wr.cell? ⟨b1, o1 + a, none⟩ = some (.string (ss.getD a ⟨#[]⟩)) := (hBq.cell (p := ⟨b1, o1 + a, none⟩) hb1).trans (hcell1 a _ (strV_get ss a (by omega)))
                have y2 : wr.cell? ⟨b1, o1 + c, none⟩ = some (.string (ss.getD c ⟨#[]⟩)) := (hBq.cell (p := ⟨b1, o1 + c, none⟩) hb1).trans (hcell1 c _ (strV_get ss c (by omega)))
                have hnp := HP.out c a hlt
                unfold On.pairAt at hnp
                obtain ⟨e1, he1⟩ : ∃ e1, (idxs (sgs zs n)).getD a 0 = e1 := ⟨_, rfl⟩
                obtain ⟨e2, he2⟩ : ∃ e2, (idxs (sgs zs n)).getD c 0 = e2 := ⟨_, rfl⟩
                obtain ⟨t1, ht1⟩ : ∃ t1, ss.getD a ⟨#[]⟩ = t1 := ⟨_, rfl⟩
                obtain ⟨t2, ht2⟩ : ∃ t2, ss.getD c ⟨#[]⟩ = t2 := ⟨_, rfl⟩
                rw [he1] at x1 hnp
                rw [he2] at x2 hnp
                rw [ht1] at y1 hnp
                rw [ht2] at y2 hnp
                have han : (a : Int) < (n : Int) := by omega
                have han' : a < n := by omega
                have hcn : (c : Int) < (n : Int) := by omega
                have hcn' : c < n := by omega
                clear hcell1 hcell2 he1 he2 ht1 ht2 hal hcl
                by_cases hee : e1 = e2
                · subst hee
                  by_cases htt : t1 = t2
                  · subst htt
                    clear hnp
                    go_wp2
                    go_region
                    go_wp2
                    go_roundw
                    case rel => exact ⟨c + 1, by omega, by go_num, hBq.drew⟩
                    case measure => simp [intOf]; omega
                  · exact absurd ⟨hca, rfl, fun e => htt e.symm⟩ hnp
                · have hee' : (e1 == e2) = false := beq_eq_false_iff_ne.2 hee
                  clear hnp hee
                  go_wp2
                  go_region
                  go_wp2
                  go_roundw
                  case rel => exact ⟨c + 1, by omega, by go_num, hBq.drew⟩
                  case measure => simp [intOf]; omega
              · obtain rfl : c = a := by omega
                go_wp2
                go_roundw
                case rel => exact ⟨c + 1, by omega, by go_num, hBq⟩
                case measure => simp [intOf]; omega
          · obtain rfl : j = a := by omega
            have hSr := HS2.out.go hBr
            have hTr := HT2.out.go hBr
            have srcT := HrT.out.go hBr
            have srcS := HrS.out.go hBr
            have e1 := own_empty wr 9 9 1 rfl
            have hBe := bal (Below.refl wr.heap.size wr) (.cells #[] 9)
            have hBwr := bgo hBw2 hBr
            clear hSr hTr
            go_wp2_with (at_builtin; refine app_src (w0 := wr) rfl _ _ 28 rfl 9 j0 (.string ⟨#[]⟩) 1 16 Tryd.underlying28 hj0 hy0 hy1 hy2 rfl (by decide) _ 0 [] rfl e1 hBe _ n (strV ss) rfl (srcT.al _) ?c1 ?c2 ?c3 ?_)
            case c1 => intro u hu; obtain ⟨s, _, rfl⟩ := List.mem_map.1 hu; rfl
            case c2 => simp [maxLen]; omega
            case c3 => omega
            intro v1 W2 hown1 hB3 _
            try rw [Nat.zero_add] at hown1
            try rw [List.nil_append] at hown1
            clear e1 hBe srcT
            go_wp2_with (at_builtin; refine app_one rfl _ _ 28 rfl 9 j0 (.string ⟨#[]⟩) 1 16 Tryd.underlying28 hj0 hy0 hy1 hy2 rfl (by decide) _ _ _ rfl hown1 hB3 [.string more] _ _ rfl rfl ?c1 ?c2 ?c3 ?_)
            case c1 => simp [Value.oneCell']
            case c2 => simp [maxLen]; omega
            case c3 => omega
            intro v2 W4 hown2 hB4 _
            have Hown2 := Lib.hid hown2
            have e3 := own_empty W4 27 27 3 rfl
            have hBe := bal (Below.refl W4.heap.size W4) (.cells #[] 27)
            have srcS4 := srcS.go hB4
            clear hown1 hown2 hB3 srcS
            go_wp2_with (at_builtin; refine app_src (w0 := W4) rfl _ _ 29 rfl 27 i0 _ 3 56 Tryd.underlying29 hi0 hz0 hz1 hz2 rfl (by decide) _ 0 [] rfl e3 hBe _ n (sigsV (sgs zs n)) rfl (srcS4.al _) (one_cells _) ?c2 ?c3 ?_)
            case c2 => simp [maxLen]; omega
            case c3 => omega
            intro v3 W6 hown3 hB6 _
            try rw [Nat.zero_add] at hown3
            try rw [List.nil_append] at hown3
            clear e3 hBe srcS4
            go_wp2_with (at_builtin; refine app_one rfl _ _ 29 rfl 27 i0 _ 3 56 Tryd.underlying29 hi0 hz0 hz1 hz2 rfl (by decide) _ _ _ rfl hown3 hB6 [.int .i64 3, .slice none 0 0, .slice none 0 0] _ _ rfl rfl ?c1 ?c2 ?c3 ?_)
            case c1 => simp [Value.oneCell']
            case c2 => simp [maxLen]; omega
            case c3 => omega
            intro v4 W8 hown4 hB8 _
            obtain ⟨A2, c2, rfl, hS2⟩ := own_slice (own_below Hown2.out hB8)
            obtain ⟨A4, c4, rfl, hS4⟩ := own_slice hown4
            have hBw8 := bgo (bgo hBwr hB4) hB8
            have F := Lib.hid (And.intro hS2 hS4)
            clear hown3 hB6 hown4 hS2 hS4 Hown2 hB4 hB8 hBwr
            go_wp2_with fail
            refine (reused_ok A2 A4 c2 c4 (n + 1) (ss ++ [more]) (sgs zs n ++ [hG 3]) (by rw [List.length_append, hn]; rfl) (by rw [List.length_append, sgs_len zs n (by omega)]; rfl) W8 (by have := F.out.1; rw [strV, List.map_append]; exact this) (by have := F.out.2; rw [sigsV_app]; exact this) (by omega) ?_).mono ?_
            · intro x hx
              rcases List.mem_append.1 hx with h | h
              · exact sgs_wf zs n x h
              · rw [List.mem_singleton.1 h]; rfl
            rintro e w9 ⟨o9, he9, ho9, hB9⟩
            have hBw9 := bgo hBw8 hB9
            clear F hBw8 hB9
            have hx := On.Reu.ext (by rw [idxs, List.length_map]; exact sgs_len zs n (by omega)) hn 3 more Ho.out
            have hxx : idxs (sgs zs n) ++ [3] = idxs (sgs zs n ++ [hG 3]) := by simp [idxs, hG]
            rw [hxx] at hx
            have ho := ho9.uniq hx
            subst ho
            have he' : e = .returned (.tuple #[.int .i64 (i : Int), .int .i64 (j : Int), .bool true]) := he9
            subst he'
            go_wp2_with fail
            go_ret
            exact ⟨rfl, hBw9⟩
theorem onetimeReuse_walk (A : Option Addr) (ca : Nat) (ss : List ByteArray) (A' : Option Addr) (cb : Nat) (zs : List Int) (more : ByteArray) (w : World) (hA : Sl w w.heap.size 1 A ss.length (strV ss)) (hlc : ss.length ≤ ca ∧ ca ≤ maxLen) (hss : ∀ s ∈ ss, s.size ≤ maxLen) (hsrc : Src w 1 (.slice A ss.length ca) ss.length (strV ss))
    (hA' : Sl w w.heap.size 1 A' zs.length (u8Z zs)) (hlc' : zs.length ≤ cb ∧ cb ≤ maxLen) (hzs : ∀ z ∈ zs, (Lit.int .u8 z).wf = true) (hm : more.size ≤ maxLen) (hT : OTabs w) :
    Calls Tryd.prog 7 #[.slice A ss.length ca, .slice A' zs.length cb, .string more] w fun e w' => e = .returned (.bool true) ∧ Below w.heap.size w w' := by
  have hl1 : ss.length ≤ maxLen := Nat.le_trans hlc.1 hlc.2
  have hl2 : zs.length ≤ maxLen := Nat.le_trans hlc'.1 hlc'.2
  unfold maxLen at hl1 hl2
  by_cases h40 : ss.length ≤ 40
  · by_cases hle : ss.length ≤ zs.length
    · exact reuse_main A ca _ _ ss rfl A' cb zs rfl more w hA hA' hzs hm hT hsrc h40 hle hl2
    · have d1 : decide ((40 : Int) < (ss.length : Int)) = false := decide_eq_false (by omega)
      have d2 : decide (zs.length < ss.length) = true := decide_eq_true (by omega)
      have d3 : decide ((zs.length : Int) < (ss.length : Int)) = true := decide_eq_true (by omega)
      clear hA hA' hzs hlc hlc' hss hle h40
      go_enter Tryd.func7, Tryd.ntmps7
      go_wp2_with fail
      refine (head_any _ hT).mono ?_
      rintro e w1 ⟨rfl, hB1⟩
      go_wp2
      go_ret
      exact ⟨rfl, hB1⟩
  · have d1 : decide ((40 : Int) < (ss.length : Int)) = true := decide_eq_true (by omega)
    clear hA hA' hzs hlc hlc' hss h40
    go_enter Tryd.func7, Tryd.ntmps7
    go_wp2_with fail
    refine (head_any _ hT).mono ?_
    rintro e w1 ⟨rfl, hB1⟩
    go_wp2
    go_ret
    exact ⟨rfl, hB1⟩
end Go.Proofs.YthgkjcofmkkdcaaDoor
