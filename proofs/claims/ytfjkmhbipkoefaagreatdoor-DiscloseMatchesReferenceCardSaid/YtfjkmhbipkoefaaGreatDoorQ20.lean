/- disclose.Show at any arguments. -/
import Derived.Test.YtfjkmhbipkoefaaGreatDoorQ19
namespace Go.Proofs.YtfjkmhbipkoefaaGreatDoor
open Go.RowKit Go.Shelf
set_option linter.unusedVariables false
set_option linter.unusedSimpArgs false
set_option maxRecDepth 100000
set_option maxHeartbeats 4000000 in
theorem show_invalid (person : ByteArray) (month : Int) (root : UInt64) (A B E : Option Addr) (ca cb ce n m ns : Nat) (rows : List RowD) (bl sel : List Int) (seed : ByteArray) (h i : Int) (w : World) (hT : DTabs w) (hA : Sl w w.heap.size 3 A n (rowsV rows)) (hB : Sl w w.heap.size 1 B m (intV bl)) (hE : Sl w w.heap.size 1 E ns (intV sel))
    (hn : rows.length = n) (hm : bl.length = m) (hns : sel.length = ns) (hnl : n ≤ maxLen) (hml : m ≤ maxLen) (hnsl : ns ≤ maxLen) (hp : person.size ≤ maxLen) (hs : ∀ x ∈ rows, x.l.size ≤ 70368744177000 ∧ x.r.size ≤ 70368744177000 ∧ I64 x.c) (hb : ∀ b ∈ bl, I64 b)
    (hv : Hid (validB person month rows bl root = false)) :
    Calls Tryz.prog 6 #[.agg #[.string person, .int .i64 month, .slice A n ca, .slice B m cb, .int .u64 root.toNat], .slice E ns ce, .string seed, .int .i64 h, .int .i64 i] w fun e w' =>
      e = .returned (.tuple #[.agg DF.none.cells, .int .i64 1]) ∧ Below w.heap.size w w' := by
  have HA := Lib.hid hA
  have HB := Lib.hid hB
  have HE := Lib.hid hE
  have HT := Lib.hid hT
  clear hA hB hE hT
  go_enter Tryz.func6, Tryz.ntmps6
  go_wp2_with fail
  obtain ⟨V, hV⟩ : ∃ V, V = (w.alloc (.cells #[.string person, .int .i64 month, .slice A n ca, .slice B m cb, .int .u64 root.toNat] 27)).alloc (.cells DF.none.cells 36) := ⟨_, rfl⟩
  have hVe : V = (w.alloc (.cells #[.string person, .int .i64 month, .slice A n ca, .slice B m cb, .int .u64 root.toNat] 27)).alloc (.cells #[.string ⟨#[]⟩, .int .i64 0, .int .u64 0, .slice none 0 0, .slice none 0 0, .int .i64 0, .int .i64 0, .int .i64 0, .slice none 0 0, .slice none 0 0] 36) := hV
  rw [← hVe]
  have hsV : V.heap.size = w.heap.size + 2 := by rw [hV]; simp
  have hBV : Below w.heap.size w V := by rw [hV]; exact bal (bal (Below.refl _ _) _) _
  have gS : V.heap[w.heap.size]? = some (.cells #[.string person, .int .i64 month, .slice A n ca, .slice B m cb, .int .u64 root.toNat] 27 (0, 0)) := by rw [hV]; exact (Below.heap_alloc _ _ _ (by simp)).trans (World.alloc_heap_new _ _)
  have gR : V.heap[w.heap.size + 1]? = some (.cells DF.none.cells 36 (0, 0)) := by
    rw [hV]
    have := World.alloc_heap_new (w.alloc (.cells #[.string person, .int .i64 month, .slice A n ca, .slice B m cb, .int .u64 root.toNat] 27)) (.cells DF.none.cells 36)
    rw [World.size_alloc] at this
    exact this
  clear hV hVe
  refine (valid35_any person month A B ca cb n m rows bl root false hv V (HT.out.go hBV).1 (HA.out.go hBV) (HB.out.go hBV) hn hm hnl hml hp hs hb).mono ?_
  rintro e w1 ⟨rfl, hB1⟩
  have hBw1 := bgo hBV hB1
  have g1R := (hB1.block (w.heap.size + 1) (by omega)).trans gR
  have g1 := (hB1.block w.heap.size (by omega)).trans gS
  have r0 : w1.cell? ⟨w.heap.size + 1, 0, none⟩ = some (.string ⟨#[]⟩) := by rw [Lib.cell_of_heap g1R]; rfl
  have r1 : w1.cell? ⟨w.heap.size + 1, 1, none⟩ = some (.int .i64 0) := by rw [Lib.cell_of_heap g1R]; rfl
  have r2 : w1.cell? ⟨w.heap.size + 1, 2, none⟩ = some (.int .u64 0) := by rw [Lib.cell_of_heap g1R]; rfl
  have r3 : w1.cell? ⟨w.heap.size + 1, 3, none⟩ = some (.slice none 0 0) := by rw [Lib.cell_of_heap g1R]; rfl
  have r4 : w1.cell? ⟨w.heap.size + 1, 4, none⟩ = some (.slice none 0 0) := by rw [Lib.cell_of_heap g1R]; rfl
  have r5 : w1.cell? ⟨w.heap.size + 1, 5, none⟩ = some (.int .i64 0) := by rw [Lib.cell_of_heap g1R]; rfl
  have r6 : w1.cell? ⟨w.heap.size + 1, 6, none⟩ = some (.int .i64 0) := by rw [Lib.cell_of_heap g1R]; rfl
  have r7 : w1.cell? ⟨w.heap.size + 1, 7, none⟩ = some (.int .i64 0) := by rw [Lib.cell_of_heap g1R]; rfl
  have r8 : w1.cell? ⟨w.heap.size + 1, 8, none⟩ = some (.slice none 0 0) := by rw [Lib.cell_of_heap g1R]; rfl
  have r9 : w1.cell? ⟨w.heap.size + 1, 9, none⟩ = some (.slice none 0 0) := by rw [Lib.cell_of_heap g1R]; rfl
  have f0 : ∀ j, w1.frozen? ⟨w.heap.size + 1, j, none⟩ = false := fun j => Lib.frozen_of_heap g1R j
  have B0 := Lib.hid hBw1
  clear hBw1 g1R gS gR hBV hB1 hsV g1
  go_wp2_with fail
  have b0 := B0.out
  have b1 := b0.setCell (p := ⟨w.heap.size + 1, 0, none⟩) (by show w.heap.size ≤ w.heap.size + 1; omega) (.string ⟨#[]⟩)
  have b2 := b1.setCell (p := ⟨w.heap.size + 1, 1, none⟩) (by show w.heap.size ≤ w.heap.size + 1; omega) (.int .i64 0)
  have b3 := b2.setCell (p := ⟨w.heap.size + 1, 2, none⟩) (by show w.heap.size ≤ w.heap.size + 1; omega) (.int .u64 0)
  have b4 := b3.setCell (p := ⟨w.heap.size + 1, 3, none⟩) (by show w.heap.size ≤ w.heap.size + 1; omega) (.slice none 0 0)
  have b5 := b4.setCell (p := ⟨w.heap.size + 1, 4, none⟩) (by show w.heap.size ≤ w.heap.size + 1; omega) (.slice none 0 0)
  have b6 := b5.setCell (p := ⟨w.heap.size + 1, 5, none⟩) (by show w.heap.size ≤ w.heap.size + 1; omega) (.int .i64 0)
  have b7 := b6.setCell (p := ⟨w.heap.size + 1, 6, none⟩) (by show w.heap.size ≤ w.heap.size + 1; omega) (.int .i64 0)
  have b8 := b7.setCell (p := ⟨w.heap.size + 1, 7, none⟩) (by show w.heap.size ≤ w.heap.size + 1; omega) (.int .i64 0)
  have b9 := b8.setCell (p := ⟨w.heap.size + 1, 8, none⟩) (by show w.heap.size ≤ w.heap.size + 1; omega) (.slice none 0 0)
  have b10 := b9.setCell (p := ⟨w.heap.size + 1, 9, none⟩) (by show w.heap.size ≤ w.heap.size + 1; omega) (.slice none 0 0)
  refine bodyPost_ret (v := .tuple #[.agg DF.none.cells, .int .i64 1]) (by simp [results, Tryz.results6, go_sem, DF.none, DF.cells, r0, r1, r2, r3, r4, r5, r6, r7, r8, r9]) rfl ⟨rfl, b10⟩
set_option maxHeartbeats 4000000 in
theorem show_unsel (person : ByteArray) (month : Int) (root : UInt64) (A B E : Option Addr) (ca cb ce n m ns : Nat) (rows : List RowD) (bl sel : List Int) (seed : ByteArray) (h i : Int) (w : World) (hT : DTabs w) (hA : Sl w w.heap.size 3 A n (rowsV rows)) (hB : Sl w w.heap.size 1 B m (intV bl)) (hE : Sl w w.heap.size 1 E ns (intV sel))
    (hn : rows.length = n) (hm : bl.length = m) (hns : sel.length = ns) (hnl : n ≤ maxLen) (hml : m ≤ maxLen) (hnsl : ns ≤ maxLen) (hp : person.size ≤ maxLen) (hs : ∀ x ∈ rows, x.l.size ≤ 70368744177000 ∧ x.r.size ≤ 70368744177000 ∧ I64 x.c) (hb : ∀ b ∈ bl, I64 b)
    (hv : Hid (validB person month rows bl root = true)) (hsel : Hid (selB sel (n : Int) = false)) :
    Calls Tryz.prog 6 #[.agg #[.string person, .int .i64 month, .slice A n ca, .slice B m cb, .int .u64 root.toNat], .slice E ns ce, .string seed, .int .i64 h, .int .i64 i] w fun e w' =>
      e = .returned (.tuple #[.agg DF.none.cells, .int .i64 1]) ∧ Below w.heap.size w w' := by
  have HA := Lib.hid hA
  have HB := Lib.hid hB
  have HE := Lib.hid hE
  have HT := Lib.hid hT
  clear hA hB hE hT
  go_enter Tryz.func6, Tryz.ntmps6
  go_wp2_with fail
  obtain ⟨V, hV⟩ : ∃ V, V = (w.alloc (.cells #[.string person, .int .i64 month, .slice A n ca, .slice B m cb, .int .u64 root.toNat] 27)).alloc (.cells DF.none.cells 36) := ⟨_, rfl⟩
  have hVe : V = (w.alloc (.cells #[.string person, .int .i64 month, .slice A n ca, .slice B m cb, .int .u64 root.toNat] 27)).alloc (.cells #[.string ⟨#[]⟩, .int .i64 0, .int .u64 0, .slice none 0 0, .slice none 0 0, .int .i64 0, .int .i64 0, .int .i64 0, .slice none 0 0, .slice none 0 0] 36) := hV
  rw [← hVe]
  have hsV : V.heap.size = w.heap.size + 2 := by rw [hV]; simp
  have hBV : Below w.heap.size w V := by rw [hV]; exact bal (bal (Below.refl _ _) _) _
  have gS : V.heap[w.heap.size]? = some (.cells #[.string person, .int .i64 month, .slice A n ca, .slice B m cb, .int .u64 root.toNat] 27 (0, 0)) := by rw [hV]; exact (Below.heap_alloc _ _ _ (by simp)).trans (World.alloc_heap_new _ _)
  have gR : V.heap[w.heap.size + 1]? = some (.cells DF.none.cells 36 (0, 0)) := by
    rw [hV]
    have := World.alloc_heap_new (w.alloc (.cells #[.string person, .int .i64 month, .slice A n ca, .slice B m cb, .int .u64 root.toNat] 27)) (.cells DF.none.cells 36)
    rw [World.size_alloc] at this
    exact this
  clear hV hVe
  refine (valid35_any person month A B ca cb n m rows bl root true hv V (HT.out.go hBV).1 (HA.out.go hBV) (HB.out.go hBV) hn hm hnl hml hp hs hb).mono ?_
  rintro e w1 ⟨rfl, hB1⟩
  have hBw1 := bgo hBV hB1
  have g1R := (hB1.block (w.heap.size + 1) (by omega)).trans gR
  have g1 := (hB1.block w.heap.size (by omega)).trans gS
  have c2 : w1.cell? ⟨w.heap.size, 2, none⟩ = some (.slice A n ca) := by rw [Lib.cell_of_heap g1]; rfl
  have GR := Lib.hid g1R
  have hE1 := HE.out.go hBw1
  have HE1 := Lib.hid hE1
  clear gS gR hBV hB1 hsV g1 g1R hE1
  go_wp2_with fail
  refine (selection_any E ce ns sel (n : Int) false hns hsel hnsl _ HE1.out).mono ?_
  rintro e w' ⟨rfl, hw'⟩
  obtain rfl := hw'
  have g1R := GR.out
  have r0 : w1.cell? ⟨w.heap.size + 1, 0, none⟩ = some (.string ⟨#[]⟩) := by rw [Lib.cell_of_heap g1R]; rfl
  have r1 : w1.cell? ⟨w.heap.size + 1, 1, none⟩ = some (.int .i64 0) := by rw [Lib.cell_of_heap g1R]; rfl
  have r2 : w1.cell? ⟨w.heap.size + 1, 2, none⟩ = some (.int .u64 0) := by rw [Lib.cell_of_heap g1R]; rfl
  have r3 : w1.cell? ⟨w.heap.size + 1, 3, none⟩ = some (.slice none 0 0) := by rw [Lib.cell_of_heap g1R]; rfl
  have r4 : w1.cell? ⟨w.heap.size + 1, 4, none⟩ = some (.slice none 0 0) := by rw [Lib.cell_of_heap g1R]; rfl
  have r5 : w1.cell? ⟨w.heap.size + 1, 5, none⟩ = some (.int .i64 0) := by rw [Lib.cell_of_heap g1R]; rfl
  have r6 : w1.cell? ⟨w.heap.size + 1, 6, none⟩ = some (.int .i64 0) := by rw [Lib.cell_of_heap g1R]; rfl
  have r7 : w1.cell? ⟨w.heap.size + 1, 7, none⟩ = some (.int .i64 0) := by rw [Lib.cell_of_heap g1R]; rfl
  have r8 : w1.cell? ⟨w.heap.size + 1, 8, none⟩ = some (.slice none 0 0) := by rw [Lib.cell_of_heap g1R]; rfl
  have r9 : w1.cell? ⟨w.heap.size + 1, 9, none⟩ = some (.slice none 0 0) := by rw [Lib.cell_of_heap g1R]; rfl
  have f0 : ∀ j, w1.frozen? ⟨w.heap.size + 1, j, none⟩ = false := fun j => Lib.frozen_of_heap g1R j
  have B0 := Lib.hid hBw1
  clear hBw1 g1R 
  go_wp2_with fail
  have b0 := B0.out
  have b1 := b0.setCell (p := ⟨w.heap.size + 1, 0, none⟩) (by show w.heap.size ≤ w.heap.size + 1; omega) (.string ⟨#[]⟩)
  have b2 := b1.setCell (p := ⟨w.heap.size + 1, 1, none⟩) (by show w.heap.size ≤ w.heap.size + 1; omega) (.int .i64 0)
  have b3 := b2.setCell (p := ⟨w.heap.size + 1, 2, none⟩) (by show w.heap.size ≤ w.heap.size + 1; omega) (.int .u64 0)
  have b4 := b3.setCell (p := ⟨w.heap.size + 1, 3, none⟩) (by show w.heap.size ≤ w.heap.size + 1; omega) (.slice none 0 0)
  have b5 := b4.setCell (p := ⟨w.heap.size + 1, 4, none⟩) (by show w.heap.size ≤ w.heap.size + 1; omega) (.slice none 0 0)
  have b6 := b5.setCell (p := ⟨w.heap.size + 1, 5, none⟩) (by show w.heap.size ≤ w.heap.size + 1; omega) (.int .i64 0)
  have b7 := b6.setCell (p := ⟨w.heap.size + 1, 6, none⟩) (by show w.heap.size ≤ w.heap.size + 1; omega) (.int .i64 0)
  have b8 := b7.setCell (p := ⟨w.heap.size + 1, 7, none⟩) (by show w.heap.size ≤ w.heap.size + 1; omega) (.int .i64 0)
  have b9 := b8.setCell (p := ⟨w.heap.size + 1, 8, none⟩) (by show w.heap.size ≤ w.heap.size + 1; omega) (.slice none 0 0)
  have b10 := b9.setCell (p := ⟨w.heap.size + 1, 9, none⟩) (by show w.heap.size ≤ w.heap.size + 1; omega) (.slice none 0 0)
  refine bodyPost_ret (v := .tuple #[.agg DF.none.cells, .int .i64 1]) (by simp [results, Tryz.results6, go_sem, DF.none, DF.cells, r0, r1, r2, r3, r4, r5, r6, r7, r8, r9]) rfl ⟨rfl, b10⟩
/-- The error of Show. -/
def showE (person : ByteArray) (month : Int) (root : UInt64) (rows : List RowD) (bl sel : List Int) (seed : ByteArray) (h i : Int) : Int :=
  if validB person month rows bl root = true ∧ selB sel (rows.length : Int) = true ∧ signB seed h i = true then
    (if -500000000 ≤ sumH (rows.map (·.c)) (hidL sel rows.length) rows.length ∧ sumH (rows.map (·.c)) (hidL sel rows.length) rows.length ≤ 500000000 then 0 else 3) else 1
/-- What Show leaves. -/
def ShowP (w : World) (person : ByteArray) (month : Int) (root : UInt64) (rows : List RowD) (bl sel : List Int) (seed : ByteArray) (h i : Int) (er : Int) (e : Ending) (w' : World) : Prop :=
  ∃ f com ms ch p, e = .returned (.tuple #[.agg f.cells, .int .i64 er]) ∧ (er ≠ 0 → f = DF.none) ∧ (er = 0 → IsShow person month root rows bl rows.length sel seed (2 ^ h.toNat) i.toNat f com ms ch p ∧ DRows w' w.heap.size f com ms ch p) ∧ Below w.heap.size w w'
theorem none_left {w : World} {person : ByteArray} {month : Int} {root : UInt64} {rows : List RowD} {bl sel : List Int} {seed : ByteArray} {h i : Int} {er : Int} (he : er ≠ 0) {e : Ending} {w' : World}
    (hh : e = .returned (.tuple #[.agg DF.none.cells, .int .i64 er]) ∧ Below w.heap.size w w') : ShowP w person month root rows bl sel seed h i er e w' :=
  ⟨DF.none, [], [], [], [], hh.1, fun _ => rfl, fun h => absurd h he, hh.2⟩
theorem show_any (person : ByteArray) (month : Int) (root : UInt64) (A B E : Option Addr) (ca cb ce n m ns : Nat) (rows : List RowD) (bl sel : List Int) (seed : ByteArray) (h i er : Int) (her : Hid (showE person month root rows bl sel seed h i = er)) (w : World) (hT : DTabs w) (hA : Sl w w.heap.size 3 A n (rowsV rows)) (hB : Sl w w.heap.size 1 B m (intV bl)) (hE : Sl w w.heap.size 1 E ns (intV sel))
    (hn : rows.length = n) (hm : bl.length = m) (hns : sel.length = ns) (hnl : n ≤ maxLen) (hml : m ≤ maxLen) (hnsl : ns ≤ 1000000) (hp : person.size ≤ maxLen) (hs : ∀ x ∈ rows, x.l.size ≤ 70368744177000 ∧ x.r.size ≤ 70368744177000 ∧ I64 x.c) (hb : ∀ b ∈ bl, I64 b) (hsd : seed.size ≤ maxLen) :
    Calls Tryz.prog 6 #[.agg #[.string person, .int .i64 month, .slice A n ca, .slice B m cb, .int .u64 root.toNat], .slice E ns ce, .string seed, .int .i64 h, .int .i64 i] w (ShowP w person month root rows bl sel seed h i er) := by
  have hnsl' : ns ≤ maxLen := by unfold maxLen; omega
  have hre := her.out
  unfold showE at hre
  cases hv : validB person month rows bl root with
  | false =>
    rw [if_neg (fun h => by rw [hv] at h; cases h.1)] at hre
    subst hre
    exact (show_invalid person month root A B E ca cb ce n m ns rows bl sel seed h i w hT hA hB hE hn hm hns hnl hml hnsl' hp hs hb (Lib.hid hv)).mono fun e w' hh => none_left (by decide) hh
  | true =>
    cases hsel : selB sel (rows.length : Int) with
    | false =>
      rw [if_neg (fun h => by rw [hsel] at h; cases h.2.1)] at hre
      subst hre
      rw [hn] at hsel
      exact (show_unsel person month root A B E ca cb ce n m ns rows bl sel seed h i w hT hA hB hE hn hm hns hnl hml hnsl' hp hs hb (Lib.hid hv) (Lib.hid hsel)).mono fun e w' hh => none_left (by decide) hh
    | true =>
      have hsel' := hsel
      rw [hn] at hsel'
      cases hsg : signB seed h i with
      | false =>
        rw [if_neg (fun h => by rw [hsg] at h; cases h.2.2)] at hre
        subst hre
        exact (show_unsigned person month root A B E ca cb ce n m ns rows bl sel seed h i w hT hA hB hE hn hm hns hml hnsl hp hs hb (Lib.hid hv) (Lib.hid hsel') (Lib.hid hsg) hsd).mono fun e w' hh => none_left (by decide) hh
      | true =>
        rw [if_pos ⟨hv, hsel, hsg⟩] at hre
        unfold signB at hsg
        rw [Bool.and_eq_true] at hsg
        obtain ⟨hk, hi⟩ := hsg
        obtain ⟨h1, h2, h3⟩ := okB_out hk
        have hi := of_decide_eq_true hi
        obtain ⟨hn', rfl⟩ := Int.eq_ofNat_of_zero_le h2
        obtain ⟨i', rfl⟩ := Int.eq_ofNat_of_zero_le hi.1
        have hi2 := hi.2
        rw [Int.toNat_natCast] at hi2
        subst hn
        by_cases hsum : -500000000 ≤ sumH (rows.map (·.c)) (hidL sel rows.length) rows.length ∧ sumH (rows.map (·.c)) (hidL sel rows.length) rows.length ≤ 500000000
        · rw [if_pos hsum] at hre
          subst hre
          refine (show_ok person month root A B E ca cb ce _ m ns rows bl sel seed hn' i' (2 ^ hn') w hT hA hB hE rfl hm hns hml hnsl hp hs hb (Lib.hid hv) (Lib.hid hsel) (by omega) (Lib.hid rfl) (by exact_mod_cast hi2) h1 hsum).mono ?_
          rintro e w' ⟨f, com, ms, ch, p, he, hS, hD, hBe⟩
          exact ⟨f, com, ms, ch, p, he, fun h => absurd rfl h, fun _ => ⟨by simpa using hS, hD⟩, hBe⟩
        · rw [if_neg hsum] at hre
          subst hre
          exact (show_range person month root A B E ca cb ce _ m ns rows bl sel seed hn' i' (2 ^ hn') w hT hA hB hE rfl hm hns hml hnsl hp hs hb (Lib.hid hv) (Lib.hid hsel) (by omega) (Lib.hid rfl) (by exact_mod_cast hi2) h1 hsum).mono fun e w' hh => none_left (by decide) hh
end Go.Proofs.YtfjkmhbipkoefaaGreatDoor
