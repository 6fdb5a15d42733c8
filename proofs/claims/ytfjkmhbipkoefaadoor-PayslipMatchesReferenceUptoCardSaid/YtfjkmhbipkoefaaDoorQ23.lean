/- The reference's Small and Valid of a payslip (layer 35). -/
import Derived.Test.YtfjkmhbipkoefaaDoorQ19
import Derived.Test.YtfjkmhbipkoefaaDoorQ22
namespace Go.Proofs.YtfjkmhbipkoefaaDoor
open Go.RowKit Go.Shelf
set_option linter.unusedVariables false
set_option linter.unusedSimpArgs false
set_option maxRecDepth 100000
set_option maxHeartbeats 1000000 in
theorem rsmall35_any (l : ByteArray) (c : Int) (r : ByteArray) (v : Bool) (hv : Hid (inR c = v)) (w : World) :
    Calls Tryd.prog 30 #[.agg #[.string l, .int .i64 c, .string r]] w fun e w' => e = .returned (.bool v) ∧ Below w.heap.size w w' := by
  obtain ⟨b, hb⟩ : ∃ b, inR c = b := ⟨_, rfl⟩
  rw [← hv.out]
  unfold inR
  clear hv hb
  have hB : Below w.heap.size w (w.alloc (.cells #[.string l, .int .i64 c, .string r] 64)) := bal (Below.refl _ _) _
  by_cases h1 : -500000000 ≤ c
  · by_cases h2 : c ≤ 500000000
    · have hr : decide (-500000000 ≤ c ∧ c ≤ 500000000) = true := decide_eq_true ⟨h1, h2⟩
      rw [hr]
      clear hr b
      go_enter Tryd.func30, Tryd.ntmps30
      go_wp2_with fail
      go_ret
      exact ⟨by first | rfl | simp, hB⟩
    · have hr : decide (-500000000 ≤ c ∧ c ≤ 500000000) = false := decide_eq_false fun h => h2 h.2
      rw [hr]
      clear hr b
      have h2' : 500000000 < c := by omega
      clear h2
      go_enter Tryd.func30, Tryd.ntmps30
      go_wp2_with fail
      go_ret
      exact ⟨by first | rfl | (simp; omega) | simp, hB⟩
  · have hr : decide (-500000000 ≤ c ∧ c ≤ 500000000) = false := decide_eq_false fun h => h1 h.1
    rw [hr]
    clear hr b
    have h1' : c < -500000000 := by omega
    clear h1
    go_enter Tryd.func30, Tryd.ntmps30
    go_wp2_with fail
    go_ret
    exact ⟨by first | rfl | (simp; omega) | simp, hB⟩
theorem rroot_own (A : Option Addr) (c n : Nat) (ss : List ByteArray) (d : UInt64) (hn : ss.length = n) (hd : Hid (rootV ss = d)) (w : World) (hA : Sl w w.heap.size 1 A n (strV ss)) (hs : ∀ s ∈ ss, s.size ≤ 140737488355328) (h1 : 1 ≤ n) (h2 : n ≤ 1024) :
    Calls Tryd.prog 32 #[.slice A n c] w fun e w' => e = .returned (.tuple #[.int .u64 d.toNat, .int .i64 0]) ∧ Below w.heap.size w w' := by
  subst hn
  rw [← hd.out]
  refine (rroot_any A c ss w hA hs (by unfold maxLen; omega)).mono ?_
  rintro e w' ⟨rfl, hB⟩
  rw [checkE_in ⟨h1, h2⟩]
  exact ⟨rfl, hB⟩
theorem comE_ok {b : Int} (h : 0 ≤ b ∧ b < 1073741789) : (comE b == 0) = true := by unfold comE; rw [if_pos h]; rfl
theorem comE_no {b : Int} (h : ¬ (0 ≤ b ∧ b < 1073741789)) : (comE b == 0) = false := by unfold comE; rw [if_neg h]; rfl
set_option maxHeartbeats 16000000 in
theorem rvalid35_any (person : ByteArray) (month : Int) (A B : Option Addr) (ca cb n m : Nat) (rows : List RowD) (bl : List Int) (root : UInt64) (v : Bool) (hv : Hid (validB person month rows bl root = v)) (w : World) (hA : Sl w w.heap.size 3 A n (rowsV rows)) (hB : Sl w w.heap.size 1 B m (intV bl))
    (hn : rows.length = n) (hm : bl.length = m) (hnl : n ≤ maxLen) (hml : m ≤ maxLen) (hp : person.size ≤ maxLen) (hs : ∀ x ∈ rows, x.l.size ≤ 70368744177000 ∧ x.r.size ≤ 70368744177000 ∧ I64 x.c) (hb : ∀ b ∈ bl, I64 b) :
    Calls Tryd.prog 15 #[.agg #[.string person, .int .i64 month, .slice A n ca, .slice B m cb, .int .u64 root.toNat]] w fun e w' => e = .returned (.bool v) ∧ Below w.heap.size w w' := by
  have HA := Lib.hid hA
  have HB := Lib.hid hB
  have Hn := Lib.hid hn
  have Hm := Lib.hid hm
  have Hs := Lib.hid hs
  have Hb := Lib.hid hb
  obtain ⟨nb, hnb⟩ : ∃ b, isNameB person = b := ⟨_, rfl⟩
  have Hnb := Lib.hid hnb
  clear hA hB hn hm hs hb hnb
  unfold maxLen at hnl hml
  go_enter Tryd.func15, Tryd.ntmps15
  go_upto_region 1 with fail
  obtain ⟨V, hV⟩ : ∃ V, V = w.alloc (.cells #[.string person, .int .i64 month, .slice A n ca, .slice B m cb, .int .u64 root.toNat] 43) := ⟨_, rfl⟩
  obtain ⟨X, hX⟩ : ∃ X, X = w.heap.size := ⟨_, rfl⟩
  rw [← hV]
  try rw [← hX]
  have gX : V.heap[X]? = some (.cells #[.string person, .int .i64 month, .slice A n ca, .slice B m cb, .int .u64 root.toNat] 43 (0, 0)) := by rw [hV, hX]; exact World.alloc_heap_new _ _
  have hBV : Below w.heap.size w V := by rw [hV]; exact bal (Below.refl _ _) _
  have HV := Lib.hid (And.intro hBV gX)
  clear hV hX hBV
  have c0 : V.cell? ⟨X, 0, none⟩ = some (.string person) := by rw [Lib.cell_of_heap gX]; rfl
  have c1 : V.cell? ⟨X, 1, none⟩ = some (.int .i64 month) := by rw [Lib.cell_of_heap gX]; rfl
  have c2 : V.cell? ⟨X, 2, none⟩ = some (.slice A n ca) := by rw [Lib.cell_of_heap gX]; rfl
  have c3 : V.cell? ⟨X, 3, none⟩ = some (.slice B m cb) := by rw [Lib.cell_of_heap gX]; rfl
  clear gX
  go_wp2_with fail
  refine (rname_at person nb Hnb V hp).mono ?_
  rintro e wq ⟨rfl, hwq⟩
  obtain rfl := hwq
  by_cases hhead : nb = true ∧ 0 ≤ month ∧ month ≤ 1199 ∧ 1 ≤ n ∧ n ≤ 1024 ∧ m = n
  · obtain ⟨hnt, hm0, hm1, hn1, hn2, hmn⟩ := hhead
    subst hmn
    subst hnt
    have q1 : ¬ month < 0 := by omega
    have q2 : ¬ 1199 < month := by omega
    have q3 : ¬ (m : Int) < 1 := by omega
    have q4 : ¬ (1024 : Int) < (m : Int) := by omega
    have q5 : ((m : Int) != (m : Int)) = false := by simp
    have Hv : Hid (v = (okK rows bl m && (rootV (leafK rows bl m) == root))) := Lib.hid (by
      rw [← hv.out]
      unfold validB
      rw [Hnb.out, Hn.out, Hm.out, decide_eq_true (⟨hm0, hm1⟩ : 0 ≤ month ∧ month ≤ 1199), decide_eq_true (⟨hn1, hn2, rfl⟩ : 1 ≤ m ∧ m ≤ 1024 ∧ m = m)]
      simp)
    clear hv
    go_wp2_with fail
    go_loopw [4] (fun i wr => ∃ k : Nat, k ≤ m ∧ i = .int .i64 (k : Int) ∧ okK rows bl k = true ∧ Below V.heap.size V wr) (fun i _ => m - (intOf i).toNat)
    case atStart => exact ⟨0, Nat.zero_le _, rfl, rfl, Below.refl _ _⟩
    case round =>
      clear c0 c1 c2 c3 q1 q2 q5
      obtain ⟨k, hk, rfl, hok, hBr⟩ := hrel
      have Hok := Lib.hid hok
      have hg := (hBr.block _ (Array.getElem?_eq_some_iff.1 HV.out.2).1).trans HV.out.2
      have c2 : wr.cell? ⟨X, 2, none⟩ = some (.slice A m ca) := by rw [Lib.cell_of_heap hg]; rfl
      have c3 : wr.cell? ⟨X, 3, none⟩ = some (.slice B m cb) := by rw [Lib.cell_of_heap hg]; rfl
      have c4 : wr.cell? ⟨X, 4, none⟩ = some (.int .u64 root.toNat) := by rw [Lib.cell_of_heap hg]; rfl
      have Hg := Lib.hid hg
      have HBr := Lib.hid (And.intro hBr (bgo HV.out.1 hBr))
      clear hok hg hBr
      by_cases hlt : k < m
      · obtain ⟨b1, o1, hA1, hb1, hc1⟩ := (HA.out.go HBr.out.2).2 (by omega)
        obtain ⟨b2, o2, hB2_, hb2, hc2⟩ := (HB.out.go HBr.out.2).2 (by omega)
        subst hA1 hB2_
        have hkl : k < rows.length := by rw [Hn.out]; exact hlt
        have hkb : k < bl.length := by rw [Hm.out]; exact hlt
        have hget := flat_get rowV 3 (fun _ => rfl) rows k hkl
        obtain ⟨x, hx⟩ : ∃ x, rows[k] = x := ⟨_, rfl⟩
        have hxg : rows.getD k default = x := by rw [List.getD_eq_getElem?_getD, List.getElem?_eq_getElem hkl]; exact hx
        rw [hx] at hget
        obtain ⟨xl, xc, xr⟩ := x
        obtain ⟨bv, hbv⟩ : ∃ b, bl.getD k 0 = b := ⟨_, rfl⟩
        have y0 : wr.cell? ⟨b1, o1 + k * 3, none⟩ = some (.string xl) := hc1 _ _ (hget 0 (by decide))
        have y1 : wr.cell? ⟨b1, o1 + k * 3 + 1, none⟩ = some (.int .i64 xc) := hc1 _ _ (hget 1 (by decide))
        have y2 : wr.cell? ⟨b1, o1 + k * 3 + 2, none⟩ = some (.string xr) := hc1 _ _ (hget 2 (by decide))
        have z0 : ∀ W, Below wr.heap.size wr W → W.cell? ⟨b2, o2 + k, none⟩ = some (.int .i64 bv) := fun W hW => (hW.cell (p := ⟨b2, o2 + k, none⟩) hb2).trans (hc2 k _ (by rw [intV_get bl k hkb, hbv]))
        have hsn : okK rows bl (k + 1) = (inR xc && (comE bv == 0)) := by
          rw [okK_snoc, Hok.out, hxg, hbv]
          simp
        have Hz := Lib.hid z0
        have Hsn := Lib.hid hsn
        obtain ⟨sb, hsb⟩ : ∃ b, inR xc = b := ⟨_, rfl⟩
        have Hsb := Lib.hid hsb
        have hlt' : (k : Int) < (m : Int) := by omega
        have hk0' : (0 : Int) ≤ (k : Int) := by omega
        clear hc1 hc2 hget hx hxg hbv hkl hkb z0 hsn hsb
        go_wp2_with fail
        refine (rsmall35_any xl xc xr sb Hsb wr).mono ?_
        rintro e w1 ⟨rfl, hB1⟩
        have g1 := (hB1.block _ (Array.getElem?_eq_some_iff.1 Hg.out).1).trans Hg.out
        have d3 : w1.cell? ⟨X, 3, none⟩ = some (.slice (some ⟨b2, o2, none⟩) m cb) := by rw [Lib.cell_of_heap g1]; rfl
        have zz := Hz.out w1 hB1
        have H1 := Lib.hid (And.intro (bgo HBr.out.1 hB1) (bgo HBr.out.2 hB1))
        clear y0 y1 y2 hB1 g1 c2 c3 c4
        by_cases hgood : sb = true ∧ 0 ≤ bv ∧ bv < 1073741789
        · obtain ⟨hg1, hg2, hg3⟩ := hgood
          subst hg1
          have Hnx : Hid (okK rows bl (k + 1) = true) := Lib.hid (by rw [Hsn.out, Hsb.out, comE_ok ⟨hg2, hg3⟩]; rfl)
          have p1 : ¬ bv < 0 := by omega
          have p2 : ¬ 1073741789 ≤ bv := by omega
          go_wp2_with fail
          go_roundw
          case rel => exact ⟨k + 1, by omega, by go_num, Hnx.out, H1.out.1⟩
          case measure => simp [intOf]; omega
        · have Hbad : Hid (v = false) := Lib.hid (by
            have h0 : okK rows bl (k + 1) = false := by
              rw [Hsn.out, Hsb.out]
              by_cases hg1 : sb = true
              · rw [comE_no (fun h => hgood ⟨hg1, h⟩), Bool.and_false]
              · rw [Bool.eq_false_iff.2 hg1]; rfl
            rw [Hv.out, okK_no h0 m (by omega), Bool.false_and])
          cases sb with
          | false =>
            clear hgood
            go_wp2_with fail
            go_ret
            exact ⟨by rw [Hbad.out] <;> rfl, H1.out.2⟩
          | true =>
            by_cases hg2 : bv < 0
            · clear hgood
              go_wp2_with fail
              go_ret
              exact ⟨by rw [Hbad.out] <;> rfl, H1.out.2⟩
            · have hg3 : 1073741789 ≤ bv := by
                refine Int.not_lt.1 fun h => hgood ⟨rfl, by omega, h⟩
              clear hgood
              go_wp2_with fail
              go_ret
              exact ⟨by rw [Hbad.out] <;> rfl, H1.out.2⟩
      · obtain rfl : m = k := by omega
        have hbd : ∀ b ∈ bl, 0 ≤ b ∧ b < 1073741789 := fun b hb => by
          obtain ⟨j, hj, rfl⟩ := List.getElem_of_mem hb
          by_cases h : 0 ≤ bl[j] ∧ bl[j] < 1073741789
          · exact h
          · exact absurd (okK_bad Hm.out (List.getElem_mem hj) h) (by rw [Hok.out]; decide)
        have Hbd := Lib.hid hbd
        obtain ⟨d, hd⟩ : ∃ d, rootV (leafK rows bl m) = d := ⟨_, rfl⟩
        have Hd := Lib.hid hd
        clear hbd hd
        go_wp2_with fail
        refine (rleaves_any A B ca cb m m rows bl wr (HA.out.go HBr.out.2) (HB.out.go HBr.out.2) Hn.out Hm.out (Nat.le_refl _) (by omega) (by unfold maxLen; omega) Hs.out Hbd.out).mono ?_
        rintro e w1 ⟨C, cc, rfl, hown, hB1⟩
        have g1 := (hB1.block _ (Array.getElem?_eq_some_iff.1 Hg.out).1).trans Hg.out
        obtain ⟨C', cc', hC', hSC⟩ := own_slice hown
        injection hC' with e1 e2 e3
        subst e1 e3
        have H1 := Lib.hid (And.intro (bgo HBr.out.2 hB1) (And.intro g1 hSC))
        clear hown hSC hB1 g1 e2 c2 c3 c4
        go_wp2_with fail
        refine (rroot_own C cc m (leafK rows bl m) d (leafK_len _ _ _) Hd w1 H1.out.2.2 (leafK_size (by rw [Hn.out]; exact Nat.le_refl _) Hs.out) hn1 hn2).mono ?_
        rintro e w2 ⟨rfl, hB2⟩
        have g2 := (hB2.block _ (Array.getElem?_eq_some_iff.1 H1.out.2.1).1).trans H1.out.2.1
        have d4 : w2.cell? ⟨X, 4, none⟩ = some (.int .u64 root.toNat) := by rw [Lib.cell_of_heap g2]; rfl
        have H2 := Lib.hid (bgo H1.out.1 hB2)
        clear g2 hB2
        have Hv2 : Hid (v = (d == root)) := Lib.hid (by rw [Hv.out, Hok.out, Hd.out, Bool.true_and])
        by_cases hdr : d = root
        · subst hdr
          have e9 : ((d.toNat : Int) == (d.toNat : Int)) = true := by simp
          go_wp2_with fail
          go_ret
          exact ⟨by rw [Hv2.out] <;> simp, H2.out⟩
        · have e9 : ((d.toNat : Int) == (root.toNat : Int)) = false := beq_eq_false_iff_ne.2 fun h => hdr (UInt64.toNat_inj.1 (Int.ofNat_inj.1 h))
          go_wp2_with fail
          go_ret
          exact ⟨by rw [Hv2.out, beq_eq_false_iff_ne.2 hdr] <;> rfl, H2.out⟩
  · have Hbad : Hid (v = false) := Lib.hid (by
      rw [← hv.out]
      unfold validB
      rw [Hnb.out, Hn.out, Hm.out]
      by_cases h1 : nb = true
      · by_cases h2 : 0 ≤ month ∧ month ≤ 1199
        · have h3 : ¬ (1 ≤ n ∧ n ≤ 1024 ∧ m = n) := fun h => hhead ⟨h1, h2.1, h2.2, h.1, h.2.1, h.2.2⟩
          rw [decide_eq_false h3]
          simp
        · rw [decide_eq_false h2]
          simp
      · rw [Bool.eq_false_iff.2 h1]
        simp)
    clear hv
    cases nb with
    | false =>
      clear hhead
      go_wp2_with fail
      go_ret
      exact ⟨by rw [Hbad.out] <;> rfl, HV.out.1⟩
    | true =>
      by_cases q1 : month < 0
      · clear hhead
        go_wp2_with fail
        go_ret
        exact ⟨by rw [Hbad.out] <;> rfl, HV.out.1⟩
      · by_cases q2 : 1199 < month
        · clear hhead
          go_wp2_with fail
          go_ret
          exact ⟨by rw [Hbad.out] <;> rfl, HV.out.1⟩
        · by_cases q3 : (n : Int) < 1
          · clear hhead
            go_wp2_with fail
            go_ret
            exact ⟨by rw [Hbad.out] <;> rfl, HV.out.1⟩
          · by_cases q4 : (1024 : Int) < (n : Int)
            · clear hhead
              go_wp2_with fail
              go_ret
              exact ⟨by rw [Hbad.out] <;> rfl, HV.out.1⟩
            · have q5 : ((m : Int) != (n : Int)) = true := by
                refine bne_iff_ne.2 fun h => hhead ⟨rfl, by omega, by omega, by omega, by omega, by omega⟩
              clear hhead
              go_wp2_with fail
              go_ret
              exact ⟨by rw [Hbad.out] <;> rfl, HV.out.1⟩
end Go.Proofs.YtfjkmhbipkoefaaDoor
