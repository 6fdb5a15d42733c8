/- The walk of disclose.Show, where it answers. -/
import Derived.Test.YtfjkmhbipkoefaaGreatDoorQ17
namespace Go.Proofs.YtfjkmhbipkoefaaGreatDoor
open Go.RowKit Go.Shelf
set_option linter.unusedVariables false
set_option linter.unusedSimpArgs false
set_option maxRecDepth 100000
/-- What Show returns. -/
structure IsShow (person : ByteArray) (month : Int) (root : UInt64) (rows : List RowD) (bl : List Int) (n : Nat) (sel : List Int) (seed : ByteArray) (N i : Nat) (f : DF) (com : List Int) (ms : List ShM) (ch : List UInt64) (p : Forks) : Prop where
  person_ : f.person = person
  month_ : f.month = month
  root_ : f.root = root
  com_ : com = comL rows bl n
  nc_ : f.nc = n
  ms_ : ms.map ShM.key = sel.map (shkAt rows bl n)
  ns_ : f.ns = sel.length
  hid_ : f.hid = sumH (rows.map (·.c)) (hidL sel n) n
  bld_ : f.bld = sumH bl (hidL sel n) n % 1073741789
  si_ : f.si = (i : Int)
  ch_ : ch = On.chains seed.data.toList (i : Int) (Dig.sum (dText person month root (comL rows bl n)).data.toList) 18
  p_ : p = pathL (leavesB seed N) (i : Int)
  na_ : f.na = 18
  nb_ : f.nb = p.length
theorem info_shown : (Tryz.prog.info? 48).map (fun i => (i.zero, i.size, i.bytes)) = some (some (.agg #[.int .i64 0, .string ⟨#[]⟩, .int .i64 0, .string ⟨#[]⟩, .int .i64 0, .slice none 0 0]), 6, 80) := by kernel_rfl
theorem info_int36 : (Tryz.prog.info? 3).map (fun i => (i.zero, i.size, i.bytes)) = some (some (.int .i64 0), 1, 8) := by kernel_rfl
theorem validB_out {person : ByteArray} {month : Int} {rows : List RowD} {bl : List Int} {root : UInt64} (h : validB person month rows bl root = true) :
    (person.size ≤ 16 ∧ 0 ≤ month ∧ month ≤ 1199) ∧ (1 ≤ rows.length ∧ rows.length ≤ 1024 ∧ bl.length = rows.length) ∧ (∀ k, k < rows.length → (-500000000 ≤ (rows.getD k default).c ∧ (rows.getD k default).c ≤ 500000000) ∧ 0 ≤ bl.getD k 0 ∧ bl.getD k 0 < 1073741789) ∧ rootV (leafK rows bl rows.length) = root := by
  unfold validB at h
  simp only [Bool.and_eq_true, decide_eq_true_eq] at h
  obtain ⟨⟨⟨⟨h1, h2⟩, h3⟩, h4⟩, h5⟩ := h
  refine ⟨⟨(of_decide_eq_true h1).2.1, h2⟩, h3, ?_, eq_of_beq h5⟩
  intro k hk
  have := List.all_eq_true.1 h4 k (List.mem_range.2 hk)
  rw [Bool.and_eq_true] at this
  refine ⟨of_decide_eq_true this.1, ?_⟩
  have h6 := eq_of_beq this.2
  unfold comE at h6
  by_cases hh : 0 ≤ bl.getD k 0 ∧ bl.getD k 0 < 1073741789
  · exact hh
  · rw [if_neg hh] at h6; cases h6
set_option maxHeartbeats 16000000 in
theorem show_ok (person : ByteArray) (month : Int) (root : UInt64) (A B E : Option Addr) (ca cb ce n m ns : Nat) (rows : List RowD) (bl sel : List Int) (seed : ByteArray) (h i N : Nat) (w : World) (hT : DTabs w) (hA : Sl w w.heap.size 3 A n (rowsV rows)) (hB : Sl w w.heap.size 1 B m (intV bl)) (hE : Sl w w.heap.size 1 E ns (intV sel))
    (hn : rows.length = n) (hm : bl.length = m) (hns : sel.length = ns) (hml : m ≤ maxLen) (hnsl : ns ≤ 1000000) (hp : person.size ≤ maxLen) (hs : ∀ x ∈ rows, x.l.size ≤ 70368744177000 ∧ x.r.size ≤ 70368744177000 ∧ I64 x.c) (hb : ∀ b ∈ bl, I64 b)
    (hv : Hid (validB person month rows bl root = true)) (hsel : Hid (selB sel (n : Int) = true)) (hh : h ≤ 8) (hN : Hid (2 ^ h = N)) (hi : i < N) (hsd : seed.size ≤ 64)
    (hsum : -500000000 ≤ sumH (rows.map (·.c)) (hidL sel n) n ∧ sumH (rows.map (·.c)) (hidL sel n) n ≤ 500000000) :
    Calls Tryz.prog 6 #[.agg #[.string person, .int .i64 month, .slice A n ca, .slice B m cb, .int .u64 root.toNat], .slice E ns ce, .string seed, .int .i64 (h : Int), .int .i64 (i : Int)] w fun e w' =>
      ∃ f com ms ch p, e = .returned (.tuple #[f.val, .int .i64 0]) ∧ IsShow person month root rows bl n sel seed N i f com ms ch p ∧ DRows w' w.heap.size f com ms ch p ∧ Below w.heap.size w w' := by
  obtain ⟨⟨hpz, hm0, hm1⟩, ⟨hn1, hn2, hnm⟩, hk0, _⟩ := validB_out hv.out
  rw [hn, hm] at hnm
  subst hnm
  rw [hn] at hn1 hn2 hk0
  have hmI : I64 month := ⟨by omega, by omega⟩
  have HA := Lib.hid hA
  have HB := Lib.hid hB
  have HE := Lib.hid hE
  have Hl := Lib.hid (And.intro hn (And.intro hm hns))
  have Hs := Lib.hid hs
  have Hb := Lib.hid hb
  have Hk := Lib.hid hk0
  have HT := Lib.hid hT
  have HmI := Lib.hid hmI
  have Hsum := Lib.hid hsum
  have hselA : ∀ j, j < sel.length → selAt sel (m : Int) j := of_decide_eq_true hsel.out
  have HselA := Lib.hid hselA
  clear hA hB hE hs hb hT hmI hk0 hsum hselA hm0 hm1
  go_enter Tryz.func6, Tryz.ntmps6
  go_wp2_with fail
  obtain ⟨V, hV⟩ : ∃ V, V = (w.alloc (.cells #[.string person, .int .i64 month, .slice A m ca, .slice B m cb, .int .u64 root.toNat] 27)).alloc (.cells DF.none.cells 36) := ⟨_, rfl⟩
  have hVe : V = (w.alloc (.cells #[.string person, .int .i64 month, .slice A m ca, .slice B m cb, .int .u64 root.toNat] 27)).alloc (.cells #[.string ⟨#[]⟩, .int .i64 0, .int .u64 0, .slice none 0 0, .slice none 0 0, .int .i64 0, .int .i64 0, .int .i64 0, .slice none 0 0, .slice none 0 0] 36) := hV
  rw [← hVe]
  have hsV : V.heap.size = w.heap.size + 2 := by rw [hV]; simp
  have hBV : Below w.heap.size w V := by rw [hV]; exact bal (bal (Below.refl _ _) _) _
  have gS : V.heap[w.heap.size]? = some (.cells #[.string person, .int .i64 month, .slice A m ca, .slice B m cb, .int .u64 root.toNat] 27 (0, 0)) := by rw [hV]; exact (Below.heap_alloc _ _ _ (by simp)).trans (World.alloc_heap_new _ _)
  have gR : V.heap[w.heap.size + 1]? = some (.cells DF.none.cells 36 (0, 0)) := by
    rw [hV]
    have := World.alloc_heap_new (w.alloc (.cells #[.string person, .int .i64 month, .slice A m ca, .slice B m cb, .int .u64 root.toNat] 27)) (.cells DF.none.cells 36)
    rw [World.size_alloc] at this
    exact this
  clear hV hVe
  have G0 := Lib.hid (And.intro hBV (And.intro gS gR))
  refine (valid35_any person month A B ca cb m m rows bl root true hv V (HT.out.go hBV).1 (HA.out.go hBV) (HB.out.go hBV) Hl.out.1 Hl.out.2.1 hml hml hp Hs.out Hb.out).mono ?_
  rintro e w1 ⟨rfl, hB1⟩
  have hBw1 := bgo hBV hB1
  have hs1 := hB1.size
  have g1 : w1.heap[w.heap.size]? = some (.cells #[.string person, .int .i64 month, .slice A m ca, .slice B m cb, .int .u64 root.toNat] 27 (0, 0)) := (hB1.block _ (by omega)).trans gS
  have c2 : w1.cell? ⟨w.heap.size, 2, none⟩ = some (.slice A m ca) := by rw [Lib.cell_of_heap g1]; rfl
  have g1R := (hB1.block (w.heap.size + 1) (by omega)).trans gR
  have G1 := Lib.hid (And.intro g1 g1R)
  have hs1w : w.heap.size + 1 < w1.heap.size := by omega
  clear gS gR hBV hB1 g1 g1R G0 hs1 hsV
  go_wp2_with fail
  refine (selection_any E ce ns sel (m : Int) true Hl.out.2.2 hsel (by unfold maxLen; omega) _ (HE.out.go hBw1)).mono ?_
  rintro e w' ⟨rfl, hw'⟩
  obtain rfl := hw'
  have c0 : w1.cell? ⟨w.heap.size, 0, none⟩ = some (.string person) := by rw [Lib.cell_of_heap G1.out.1]; rfl
  have c1 : w1.cell? ⟨w.heap.size, 1, none⟩ = some (.int .i64 month) := by rw [Lib.cell_of_heap G1.out.1]; rfl
  have c4 : w1.cell? ⟨w.heap.size, 4, none⟩ = some (.int .u64 root.toNat) := by rw [Lib.cell_of_heap G1.out.1]; rfl
  go_upto_region 4 with fail
  have hJ0 : ShJ w w1.heap.size #[.string person, .int .i64 month, .slice A m ca, .slice B m cb, .int .u64 root.toNat] (dfA person month root none 0 0) [] [] [] [] (.slice none 0 0) 0 [] (w1.alloc (.cells #[.string person, .int .i64 month, .int .u64 root.toNat, .slice none 0 0, .slice none 0 0, .int .i64 0, .int .i64 0, .int .i64 0, .slice none 0 0, .slice none 0 0] 36)) := ShJ.start hs1w G1.out.1 G1.out.2 hBw1
  obtain ⟨U, hU⟩ : ∃ U, U = w1.alloc (.cells #[.string person, .int .i64 month, .int .u64 root.toNat, .slice none 0 0, .slice none 0 0, .int .i64 0, .int .i64 0, .int .i64 0, .slice none 0 0, .slice none 0 0] 36) := ⟨_, rfl⟩
  rw [← hU] at hJ0 ⊢
  obtain ⟨D, hD⟩ : ∃ D, D = w1.heap.size := ⟨_, rfl⟩
  rw [← hD] at hJ0 ⊢
  have HJ0 := Lib.hid hJ0
  have c2U : U.cell? ⟨w.heap.size, 2, none⟩ = some (.slice A m ca) := by rw [Lib.cell_of_heap hJ0.sh]; rfl
  obtain ⟨i0, hi0, hz0, hz1, hz2⟩ := info_parts info_str
  obtain ⟨i1, hi1, hy0, hy1, hy2⟩ := info_parts info_int36
  clear hJ0 c0 c1 c2 c4 G1 hs1w hBw1 hU hD
  clear w1
  go_wp2_with fail
  clear c2U
  go_loopw [13, 47] (fun v q wr => ∃ k : Nat, k ≤ m ∧ q = .int .i64 (k : Int) ∧ ∃ C cc, ShJ w D #[.string person, .int .i64 month, .slice A m ca, .slice B m cb, .int .u64 root.toNat] (dfA person month root C k cc) (comL rows bl k) [] [] [] v k (leafK rows bl k) wr) (fun _ q _ => m - (intOf q).toNat)
  case atStart => exact ⟨0, Nat.zero_le _, rfl, none, 0, HJ0.out⟩
  case round =>
    obtain ⟨k, hk, rfl, C, cc, hJ⟩ := hrel
    have HJ := Lib.hid hJ
    have hBw := hJ.be
    clear hJ
    by_cases hlt : k < m
    · have hlt' : (k : Int) < (m : Int) := by omega
      have hkl : k < rows.length := by rw [Hl.out.1]; exact hlt
      have hkb : k < bl.length := by rw [Hl.out.2.1]; exact hlt
      obtain ⟨b1, o1, rfl, hb1, hc1⟩ := HA.out.2 (by omega)
      obtain ⟨b2, o2, rfl, hb2, hc2⟩ := HB.out.2 (by omega)
      obtain ⟨x, hx⟩ : ∃ x, rows[k] = x := ⟨_, rfl⟩
      have hxg : rows.getD k default = x := by rw [List.getD_eq_getElem?_getD, List.getElem?_eq_getElem hkl]; exact hx
      have hget := flat_get rowV 3 (fun _ => rfl) rows k hkl
      rw [hx] at hget
      have hxs := Hs.out x (by rw [← hx]; exact List.getElem_mem hkl)
      have hkk := Hk.out k hlt
      rw [hxg] at hkk
      obtain ⟨bv, hbv⟩ : ∃ b, bl.getD k 0 = b := ⟨_, rfl⟩
      rw [hbv] at hkk
      have y0 : wr.cell? ⟨b1, o1 + k * 3, none⟩ = some (.string x.l) := (hBw.cell (p := ⟨b1, o1 + k * 3, none⟩) hb1).trans (hc1 _ _ (hget 0 (by decide)))
      have y1 : wr.cell? ⟨b1, o1 + k * 3 + 1, none⟩ = some (.int .i64 x.c) := (hBw.cell (p := ⟨b1, o1 + k * 3 + 1, none⟩) hb1).trans (hc1 _ _ (hget 1 (by decide)))
      have y2 : wr.cell? ⟨b1, o1 + k * 3 + 2, none⟩ = some (.string x.r) := (hBw.cell (p := ⟨b1, o1 + k * 3 + 2, none⟩) hb1).trans (hc1 _ _ (hget 2 (by decide)))
      have z : wr.cell? ⟨b2, o2 + k, none⟩ = some (.int .i64 bv) := (hBw.cell (p := ⟨b2, o2 + k, none⟩) hb2).trans (hc2 k _ (by rw [intV_get bl k hkb, hbv]))
      obtain ⟨xl, xc, xr⟩ := x
      obtain ⟨hs1, hs2, hs3⟩ := hxs
      dsimp only at y0 y1 y2 hs1 hs2 hs3 hkk
      obtain ⟨⟨hr1, hr2⟩, hr3, hr4⟩ := hkk
      obtain ⟨vi, hvi⟩ : ∃ v, xc % 1073741789 = v := ⟨_, rfl⟩
      have hvi0 : 0 ≤ vi := by omega
      have hvi1 : vi < 1073741789 := by omega
      have he1 : IntKind.i64.wrap (xc + 1073741789) = xc + 1073741789 := IntWalk.i64_in _ (by omega)
      have he2 : (xc + 1073741789).tmod 1073741789 = vi := by
        rw [Int.tmod_eq_emod_of_nonneg (by omega)]; omega
      obtain ⟨cx, hcx⟩ : ∃ c, comI vi bv = c := ⟨_, rfl⟩
      have hce : comE bv = 0 := by unfold comE; rw [if_pos ⟨hr3, hr4⟩]
      have hcxb := comI_bd vi bv
      rw [hcx] at hcxb
      obtain ⟨t, ht⟩ : ∃ t, leafB xl cx xr = t := ⟨_, rfl⟩
      have Hlf : Hid (leafK rows bl (k + 1) = leafK rows bl k ++ [t] ∧ comL rows bl (k + 1) = comL rows bl k ++ [cx]) := Lib.hid ⟨by rw [leafK_snoc, hxg, hbv, leafAt]; dsimp only; rw [hvi, hcx, ht], by rw [comL_snoc, hxg, hbv]; dsimp only; rw [hvi, hcx]⟩
      have Hcx := Lib.hid hcx
      have Hce := Lib.hid hce
      have Ht := Lib.hid ht
      have hcI : I64 cx := ⟨by omega, by omega⟩
      have HcI := Lib.hid hcI
      clear hx hxg hget hc1 hc2 hbv hkl hkb hcx hce ht hvi hcxb hcI hr1 hr2 hr3 hr4
      go_upto_region 8 with fail
      obtain ⟨V, hV⟩ : ∃ V, V = wr.alloc (.cells #[.string xl, .int .i64 xc, .string xr] 46) := ⟨_, rfl⟩
      rw [← hV]
      have gV : V.heap[wr.heap.size]? = some (.cells #[.string xl, .int .i64 xc, .string xr] 46 (0, 0)) := by rw [hV]; exact World.alloc_heap_new _ _
      have hBV : Below wr.heap.size wr V := by rw [hV]; exact bal (Below.refl _ _) _
      have hszV : wr.heap.size < V.heap.size := by rw [hV]; simp
      have zV : V.cell? ⟨b2, o2 + k, none⟩ = some (.int .i64 bv) := (hBV.cell (p := ⟨b2, o2 + k, none⟩) (Nat.lt_of_lt_of_le hb2 hBw.size)).trans z
      have hJV := HJ.out.go hBV
      have HJV := Lib.hid hJV
      have GV := Lib.hid (show V.drew.heap[wr.heap.size]? = some (.cells #[.string xl, .int .i64 xc, .string xr] 46 (0, 0)) from gV)
      have GS := Lib.hid (show V.drew.heap[w.heap.size]? = some (.cells #[.string person, .int .i64 month, .slice (some ⟨b1, o1, none⟩) m ca, .slice (some ⟨b2, o2, none⟩) m cb, .int .u64 root.toNat] 27 (0, 0)) from hJV.sh)
      have GZ := Lib.hid (show V.drew.cell? ⟨b2, o2 + k, none⟩ = some (.int .i64 bv) from zV)
      have hVd : wr.heap.size < V.drew.heap.size := hszV
      have hSd : w.heap.size < V.drew.heap.size := (Array.getElem?_eq_some_iff.1 hJV.sh).1
      have hb2d : b2 < V.drew.heap.size := Nat.lt_of_lt_of_le hb2 hJV.be.size
      have hGd : GTab V.drew := (HT.out.go hJV.be.drew).1.2
      clear hV y0 y1 y2 z hJV gV zV
      have hcS : ∀ W : World, W.heap[w.heap.size]? = some (.cells #[.string person, .int .i64 month, .slice (some ⟨b1, o1, none⟩) m ca, .slice (some ⟨b2, o2, none⟩) m cb, .int .u64 root.toNat] 27 (0, 0)) → W.cell? ⟨w.heap.size, 3, none⟩ = some (.slice (some ⟨b2, o2, none⟩) m cb) := fun W hW => by rw [Lib.cell_of_heap hW]; rfl
      refine wp_region_noPanic ?_
      refine wp_region_held_drew (S := fun W => W.heap[wr.heap.size]? = some (.cells #[.string xl, .int .i64 xc, .string xr] 46 (0, 0)) ∧ W.heap[w.heap.size]? = some (.cells #[.string person, .int .i64 month, .slice (some ⟨b1, o1, none⟩) m ca, .slice (some ⟨b2, o2, none⟩) m cb, .int .u64 root.toNat] 27 (0, 0)) ∧ W.cell? ⟨b2, o2 + k, none⟩ = some (.int .i64 bv)) (by kernel_rfl) ⟨GV.out, GS.out, GZ.out⟩ (fun hHeld => ?_)
      refine wpAnyH_take (i := 0) (v := ?_) rfl (by kernel_rfl) (by kernel_rfl) (by kernel_rfl) (fun _ _ _ h => h) (Or.inl ⟨by kernel_rfl, ?_⟩) (by assumption) ?_
      rotate_left
      · intro w hSw
        (try dsimp only at hSw)
        go_simp
        first | done | with_reducible rfl
      simp only [List.getElem_toArray, List.getElem_cons_zero, List.getElem_cons_succ, Act.put, List.setIfInBounds_toArray, List.set_cons_zero, List.set_cons_succ]
      refine wpAnyH_take (i := 1) (v := ?_) rfl (by kernel_rfl) (by kernel_rfl) (by kernel_rfl) (fun _ _ _ h => h) (Or.inl ⟨by kernel_rfl, ?_⟩) (by assumption) ?_
      rotate_left
      · intro w hSw
        (try dsimp only at hSw)
        have z0 : w.cell? ⟨wr.heap.size, 1, none⟩ = some (.int .i64 xc) := by rw [Lib.cell_of_heap hSw.1]; rfl
        go_simp
        first | done | with_reducible rfl
      simp only [List.getElem_toArray, List.getElem_cons_zero, List.getElem_cons_succ, Act.put, List.setIfInBounds_toArray, List.set_cons_zero, List.set_cons_succ]
      refine wpAnyH_take (i := 2) (v := .int .i64 (xc + 1073741789)) rfl (by kernel_rfl) (by kernel_rfl) (by kernel_rfl) (fun _ _ _ h => h) (Or.inl ⟨by kernel_rfl, ?_⟩) (by assumption) ?_
      · intro w hSw
        (try dsimp only at hSw)
        first | (go_simp; done) | (go_simp; simp [he1])
      simp only [List.getElem_toArray, List.getElem_cons_zero, List.getElem_cons_succ, Act.put, List.setIfInBounds_toArray, List.set_cons_zero, List.set_cons_succ]
      refine wpAnyH_take (i := 3) (v := .int .i64 vi) rfl (by kernel_rfl) (by kernel_rfl) (by kernel_rfl) (fun _ _ _ h => h) (Or.inl ⟨by kernel_rfl, ?_⟩) (by assumption) ?_
      · intro w hSw
        (try dsimp only at hSw)
        first | (go_simp; done) | (go_simp; simp [he1, he2])
      simp only [List.getElem_toArray, List.getElem_cons_zero, List.getElem_cons_succ, Act.put, List.setIfInBounds_toArray, List.set_cons_zero, List.set_cons_succ]
      refine wpAnyH_take (i := 4) (v := ?_) rfl (by kernel_rfl) (by kernel_rfl) (by kernel_rfl) (fun _ _ _ h => h) (Or.inl ⟨by kernel_rfl, ?_⟩) (by assumption) ?_
      rotate_left
      · intro w hSw
        (try dsimp only at hSw)
        go_simp
        first | done | with_reducible rfl
      simp only [List.getElem_toArray, List.getElem_cons_zero, List.getElem_cons_succ, Act.put, List.setIfInBounds_toArray, List.set_cons_zero, List.set_cons_succ]
      refine wpAnyH_take (i := 5) (v := ?_) rfl (by kernel_rfl) (by kernel_rfl) (by kernel_rfl) (fun _ _ _ h => h) (Or.inl ⟨by kernel_rfl, ?_⟩) (by assumption) ?_
      rotate_left
      · intro w hSw
        (try dsimp only at hSw)
        have z0 := hcS w hSw.2.1
        go_simp
        first | done | with_reducible rfl
      simp only [List.getElem_toArray, List.getElem_cons_zero, List.getElem_cons_succ, Act.put, List.setIfInBounds_toArray, List.set_cons_zero, List.set_cons_succ]
      refine wpAnyH_take (i := 6) (v := ?_) rfl (by kernel_rfl) (by kernel_rfl) (by kernel_rfl) (fun _ _ _ h => h) (Or.inl ⟨by kernel_rfl, ?_⟩) (by assumption) ?_
      rotate_left
      · intro w hSw
        (try dsimp only at hSw)
        go_simp
        first | done | with_reducible rfl
      simp only [List.getElem_toArray, List.getElem_cons_zero, List.getElem_cons_succ, Act.put, List.setIfInBounds_toArray, List.set_cons_zero, List.set_cons_succ]
      refine wpAnyH_take (i := 7) (v := ?_) rfl (by kernel_rfl) (by kernel_rfl) (by kernel_rfl) (fun _ _ _ h => h) (Or.inl ⟨by kernel_rfl, ?_⟩) (by assumption) ?_
      rotate_left
      · intro w hSw
        (try dsimp only at hSw)
        go_simp
        first | done | with_reducible rfl
      simp only [List.getElem_toArray, List.getElem_cons_zero, List.getElem_cons_succ, Act.put, List.setIfInBounds_toArray, List.set_cons_zero, List.set_cons_succ]
      refine wpAnyH_take (i := 8) (v := ?_) rfl (by kernel_rfl) (by kernel_rfl) (by kernel_rfl) (fun _ _ _ h => h) (Or.inl ⟨by kernel_rfl, ?_⟩) (by assumption) ?_
      rotate_left
      · intro w hSw
        (try dsimp only at hSw)
        have z0 := hSw.2.2
        go_simp
        first | done | with_reducible rfl
      simp only [List.getElem_toArray, List.getElem_cons_zero, List.getElem_cons_succ, Act.put, List.setIfInBounds_toArray, List.set_cons_zero, List.set_cons_succ]
      refine wpAnyH_ready (rs := [9]) (by kernel_rfl) (by simp) ?_
      refine AllReadyH.cons rfl (fun K hK => ?_) AllReadyH.nil
      simp only [List.getElem_toArray, List.getElem_cons_zero, List.getElem_cons_succ]
      go_simp
      (with_reducible refine (commit_at vi bv cx 0 Hcx Hce hvi0 hvi1 V.drew hGd).mono ?_)
      rintro e w1 ⟨rfl, hB1⟩
      dsimp only
      have hD1 : Below V.drew.heap.size V.drew w1 := hB1
      refine hK.out _ _ ⟨(hD1.block _ hVd).trans GV.out, (hD1.block _ hSd).trans GS.out, (hD1.cell (p := ⟨b2, o2 + k, none⟩) hb2d).trans GZ.out⟩ (fun hHeld => ?_)
      clear hK K
      try simp only [List.getElem_toArray, List.getElem_cons_zero, List.getElem_cons_succ, Act.put, List.setIfInBounds_toArray, List.set_cons_zero, List.set_cons_succ]
      refine wpAnyH_take (i := 10) (v := ?_) rfl (by kernel_rfl) (by kernel_rfl) (by kernel_rfl) (fun _ _ _ h => h) (Or.inl ⟨by kernel_rfl, ?_⟩) (by assumption) ?_
      rotate_left
      · intro w hSw
        (try dsimp only at hSw)
        go_simp
        first | done | with_reducible rfl
      simp only [List.getElem_toArray, List.getElem_cons_zero, List.getElem_cons_succ, Act.put, List.setIfInBounds_toArray, List.set_cons_zero, List.set_cons_succ]
      refine wpAnyH_take (i := 11) (v := ?_) rfl (by kernel_rfl) (by kernel_rfl) (by kernel_rfl) (fun _ _ _ h => h) (Or.inl ⟨by kernel_rfl, ?_⟩) (by assumption) ?_
      rotate_left
      · intro w hSw
        (try dsimp only at hSw)
        go_simp
        first | done | with_reducible rfl
      simp only [List.getElem_toArray, List.getElem_cons_zero, List.getElem_cons_succ, Act.put, List.setIfInBounds_toArray, List.set_cons_zero, List.set_cons_succ]
      refine wpAnyH_take (i := 12) (v := ?_) rfl (by kernel_rfl) (by kernel_rfl) (by kernel_rfl) (fun _ _ _ h => h) (Or.inl ⟨by kernel_rfl, ?_⟩) (by assumption) ?_
      rotate_left
      · intro w hSw
        (try dsimp only at hSw)
        go_simp
        first | done | with_reducible rfl
      simp only [List.getElem_toArray, List.getElem_cons_zero, List.getElem_cons_succ, Act.put, List.setIfInBounds_toArray, List.set_cons_zero, List.set_cons_succ]
      refine wpAnyH_take (i := 13) (v := ?_) rfl (by kernel_rfl) (by kernel_rfl) (by kernel_rfl) (fun _ _ _ h => h) (Or.inl ⟨by kernel_rfl, ?_⟩) (by assumption) ?_
      rotate_left
      · intro w hSw
        (try dsimp only at hSw)
        go_simp
        first | done | with_reducible rfl
      simp only [List.getElem_toArray, List.getElem_cons_zero, List.getElem_cons_succ, Act.put, List.setIfInBounds_toArray, List.set_cons_zero, List.set_cons_succ]
      refine wpAnyH_take (i := 14) (v := ?_) rfl (by kernel_rfl) (by kernel_rfl) (by kernel_rfl) (fun _ _ _ h => h) (Or.inl ⟨by kernel_rfl, ?_⟩) (by assumption) ?_
      rotate_left
      · intro w hSw
        (try dsimp only at hSw)
        go_simp
        first | done | with_reducible rfl
      simp only [List.getElem_toArray, List.getElem_cons_zero, List.getElem_cons_succ, Act.put, List.setIfInBounds_toArray, List.set_cons_zero, List.set_cons_succ]
      refine wpAnyH_done (by kernel_rfl) ?_ _
      dsimp only [NoPanic]
      clear hHeld
      clear hHeld
      have hD1u : Below V.heap.size V w1 := below_undrew hD1
      have hJ1 := HJV.out.go hD1u
      have hRow1 : w1.heap[wr.heap.size]? = some (.cells #[.string xl, .int .i64 xc, .string xr] 46 (0, 0)) := (hD1.block _ hVd).trans GV.out
      have hDl : D < wr.heap.size := (Array.getElem?_eq_some_iff.1 HJ.out.dd).1
      have hOC : w1.ownsRow w.heap.size 3 1 (.slice C k cc) k (intV (comL rows bl k)) := hJ1.rw.c
      have hdd : w1.heap[D]? = some (.cells (dfA person month root C k cc).cells 36 (0, 0)) := hJ1.dd
      have kc : w1.cell? ⟨D, 3, none⟩ = some (.slice C k cc) := by rw [Lib.cell_of_heap hdd]; rfl
      have hBe1 := hJ1.be
      have HJ1 := Lib.hid hJ1
      have HOC := Lib.hid hOC
      have Hdd := Lib.hid hdd
      have HRow1 := Lib.hid hRow1
      clear hD1 hD1u hB1 GV GS GZ hVd hSd hb2d hGd hJ1 hOC hdd hRow1 hBV hcS
      go_wp2_with (at_builtin; refine app_one rfl _ _ 23 rfl 3 i1 (.int .i64 0) 1 8 Tryz.underlying23 hi1 hy0 hy1 hy2 rfl (by decide) _ k _ rfl HOC.out hBe1 [.int .i64 cx] _ _ rfl rfl (by simp [Value.oneCell']) (by unfold maxLen; omega) (by omega) ?_)
      intro v3 w3 hown3 hB3 hk3
      obtain ⟨C3, c3, rfl, _, _⟩ := own_slc hown3
      have hDl1 : D < w1.heap.size := (Array.getElem?_eq_some_iff.1 Hdd.out).1
      have h3D : w3.heap[D]? = some (.cells (dfA person month root C k cc).cells 36 (0, 0)) := (hk3.2 D hDl1 (own_ne HOC.out Hdd.out (by decide))).trans Hdd.out
      have h3R : w3.heap[wr.heap.size]? = some (.cells #[.string xl, .int .i64 xc, .string xr] 46 (0, 0)) := (hk3.2 _ (Array.getElem?_eq_some_iff.1 HRow1.out).1 (own_ne HOC.out HRow1.out (by decide))).trans HRow1.out
      have hJ2' := HJ1.out.com hk3 hB3 hown3
      rw [← Hlf.out.2] at hJ2'
      have hJ2 : ShJ w D #[.string person, .int .i64 month, .slice (some ⟨b1, o1, none⟩) m ca, .slice (some ⟨b2, o2, none⟩) m cb, .int .u64 root.toNat] (dfA person month root C3 (k + 1) c3) (comL rows bl (k + 1)) [] [] [] _ k (leafK rows bl k) (w3.setCell ⟨D, 3, none⟩ (.slice C3 (k + 1) c3)) := hJ2'
      clear hJ2'
      have kc3 : w3.cell? ⟨D, 3, none⟩ = some (.slice C k cc) := by rw [Lib.cell_of_heap h3D]; rfl
      have kf3 : w3.frozen? ⟨D, 3, none⟩ = false := Lib.frozen_of_heap h3D 3
      have h4R : (w3.setCell ⟨D, 3, none⟩ (.slice C3 (k + 1) c3)).heap[wr.heap.size]? = some (.cells #[.string xl, .int .i64 xc, .string xr] 46 (0, 0)) := (Below.heap_setCell _ _ _ _ (by show wr.heap.size ≠ D; omega)).trans h3R
      obtain ⟨w4, hw4⟩ : ∃ w4, w4 = w3.setCell ⟨D, 3, none⟩ (.slice C3 (k + 1) c3) := ⟨_, rfl⟩
      have HJ2 := Lib.hid hJ2
      have H4R := Lib.hid h4R
      clear h3D h3R hJ2 h4R hown3 hk3 HJ1 HOC Hdd HRow1 hBe1 kc
      go_upto_region 10 with fail
      rw [← hw4] at HJ2 H4R ⊢
      clear kc3 kf3 hw4 hB3
      have q0 : w4.cell? ⟨wr.heap.size, 0, none⟩ = some (.string xl) := by rw [Lib.cell_of_heap H4R.out]; rfl
      have q2 : w4.cell? ⟨wr.heap.size, 2, none⟩ = some (.string xr) := by rw [Lib.cell_of_heap H4R.out]; rfl
      go_wp2_with fail
      refine (leafP_at xl cx xr t Ht HcI.out hs1 hs2 w4 (HT.out.go HJ2.out.be).1).mono ?_
      rintro e w5 ⟨rfl, hB5⟩
      have hJ5 := HJ2.out.go hB5
      have HJ5 := Lib.hid hJ5
      have hOl := hJ5.lv
      have hBe5 := hJ5.be
      clear q0 q2 H4R hB5 hJ5
      go_wp2_with (at_builtin; refine app_one rfl _ _ 51 rfl 9 i0 (.string ⟨#[]⟩) 1 16 Tryz.underlying51 hi0 hz0 hz1 hz2 rfl (by decide) _ k _ rfl hOl hBe5 [.string t] _ _ rfl rfl (by simp [Value.oneCell']) (by unfold maxLen; omega) (by omega) ?_)
      intro v6 w6 hown6 hB6 hk6
      have hJ6 := HJ5.out.leaf (lv' := leafK rows bl (k + 1)) hk6 hB6 (by rw [Hlf.out.1, strV_snoc']; exact hown6)
      have HJ6 := Lib.hid hJ6
      clear hown6 hB6 hk6 hOl hBe5 hJ6
      go_wp2
      go_roundw
      case rel => exact ⟨k + 1, by omega, by go_num, C3, c3, HJ6.out⟩
      case measure => simp [intOf]; omega
    · obtain rfl : m = k := by omega
      obtain ⟨tx, htx⟩ : ∃ t, dText person month root (comL rows bl m) = t := ⟨_, rfl⟩
      obtain ⟨dg, hdg⟩ : ∃ d, Dig.sum tx.data.toList = d := ⟨_, rfl⟩
      obtain ⟨p, hp'⟩ : ∃ p, pathL (leavesB seed N) (i : Int) = p := ⟨_, rfl⟩
      have htz : tx.size ≤ maxLen := by
        rw [← htx]
        refine Nat.le_trans (joinS_size _ 1000 ?_) ?_
        · intro s hs
          rcases List.mem_append.1 hs with hs | hs
          · simp only [dHead, List.mem_cons, List.not_mem_nil, or_false] at hs
            rcases hs with rfl | rfl | rfl | rfl
            · decide
            · omega
            · have := itoaB_size month HmI.out.1 HmI.out.2; omega
            · rw [textB_size]; omega
          · obtain ⟨x, hx', rfl⟩ := List.mem_map.1 hs
            have h1 := comL_bd rows bl m x hx'
            have := itoaB_size x (by omega) (by omega)
            omega
        · have : (dList person month root (comL rows bl m)).length = 4 + m := by simp only [dList, dHead, List.length_append, List.length_map, List.length_cons, List.length_nil, comL_len]
          rw [this]
          unfold maxLen
          omega
      have Htx := Lib.hid htx
      have Hdg := Lib.hid hdg
      have Hp := Lib.hid hp'
      have Htz := Lib.hid htz
      have hdd := HJ.out.dd
      have k0 : wr.cell? ⟨D, 0, none⟩ = some (.string person) := by rw [Lib.cell_of_heap hdd]; rfl
      have k1 : wr.cell? ⟨D, 1, none⟩ = some (.int .i64 month) := by rw [Lib.cell_of_heap hdd]; rfl
      have k2 : wr.cell? ⟨D, 2, none⟩ = some (.int .u64 root.toNat) := by rw [Lib.cell_of_heap hdd]; rfl
      have k3 : wr.cell? ⟨D, 3, none⟩ = some (.slice C m cc) := by rw [Lib.cell_of_heap hdd]; rfl
      have hOC : wr.ownsRow w.heap.size 3 1 (.slice C m cc) m (intV (comL rows bl m)) := HJ.out.rw.c
      obtain ⟨C', cc', hC', hSC⟩ := own_slice hOC
      injection hC' with e1 e2 e3
      subst e1 e3
      have HSC := Lib.hid hSC
      clear hdd htx hdg hp' htz hOC hSC e2
      go_wp2_with fail
      refine (dtext_any person month root C cc m (comL rows bl m) tx (comL_len _ _ _) Htx HmI.out (fun x hx => by have := comL_bd rows bl m x hx; exact ⟨by omega, by omega⟩) (by omega) (by omega) wr (HT.out.go hBw) HSC.out).mono ?_
      rintro e w1 ⟨rfl, hB1⟩
      have hJ1 := HJ.out.go hB1
      have HJ1 := Lib.hid hJ1
      have hBw1 := hJ1.be
      clear k0 k1 k2 k3 hBw hJ1 HSC HJ hB1
      clear wr
      go_wp2_with fail
      refine (sign_own seed h i N hh hN hi hsd tx dg Hdg Htz.out p Hp w1 (HT.out.go hBw1).ot).mono ?_
      rintro e w2 ⟨SA, sca, SB, scb, rfl, hSA, hSB, hB2⟩
      have hJ2 := HJ1.out.go hB2
      replace hSA := own_mono hSA hBw1.size
      replace hSB := own_mono hSB hBw1.size
      have HJ2 := Lib.hid hJ2
      have HSg := Lib.hid (And.intro hSA hSB)
      clear hSA hSB hB2 hBw1 HJ1 hJ2
      clear w1
      go_upto_region 15 with fail
      obtain ⟨V2, hV2⟩ : ∃ V2, V2 = w2.alloc (.cells #[.int .i64 (i : Int), .slice SA 18 sca, .slice SB p.length scb] 34) := ⟨_, rfl⟩
      rw [← hV2]
      have hJ3 := HJ2.out.al (.cells #[.int .i64 (i : Int), .slice SA 18 sca, .slice SB p.length scb] 34)
      have hSA := HSg.out.1.alloc (.cells #[.int .i64 (i : Int), .slice SA 18 sca, .slice SB p.length scb] 34)
      have hSB := HSg.out.2.alloc (.cells #[.int .i64 (i : Int), .slice SA 18 sca, .slice SB p.length scb] 34)
      have hG : V2.heap[w2.heap.size]? = some (.cells #[.int .i64 (i : Int), .slice SA 18 sca, .slice SB p.length scb] 34 (0, 0)) := by rw [hV2]; exact World.alloc_heap_new _ _
      rw [← hV2] at hJ3 hSA hSB
      have s0 : V2.cell? ⟨w2.heap.size, 0, none⟩ = some (.int .i64 (i : Int)) := by rw [Lib.cell_of_heap hG]; rfl
      have s1 : V2.cell? ⟨w2.heap.size, 1, none⟩ = some (.slice SA 18 sca) := by rw [Lib.cell_of_heap hG]; rfl
      have s2 : V2.cell? ⟨w2.heap.size, 2, none⟩ = some (.slice SB p.length scb) := by rw [Lib.cell_of_heap hG]; rfl
      have d7 : V2.cell? ⟨D, 7, none⟩ = some (.int .i64 0) := by rw [Lib.cell_of_heap hJ3.dd]; rfl
      have d8 : V2.cell? ⟨D, 8, none⟩ = some (.slice none 0 0) := by rw [Lib.cell_of_heap hJ3.dd]; rfl
      have d9 : V2.cell? ⟨D, 9, none⟩ = some (.slice none 0 0) := by rw [Lib.cell_of_heap hJ3.dd]; rfl
      have fD : ∀ j, V2.frozen? ⟨D, j, none⟩ = false := fun j => Lib.frozen_of_heap hJ3.dd j
      have hJ4' := hJ3.sig (si := (i : Int)) hSA hSB
      have hJ4 : ShJ w D #[.string person, .int .i64 month, .slice A m ca, .slice B m cb, .int .u64 root.toNat] (dfB person month root C m cc none 0 0 0 0 (i : Int) SA sca SB p.length scb) (comL rows bl m) [] (On.chains seed.data.toList (i : Int) dg 18) p _ m (leafK rows bl m) (((V2.setCell ⟨D, 7, none⟩ (.int .i64 (i : Int))).setCell ⟨D, 8, none⟩ (.slice SA 18 sca)).setCell ⟨D, 9, none⟩ (.slice SB p.length scb)) := hJ4'
      have HJ4 := Lib.hid hJ4
      clear hJ4 hJ4' hJ3 hSA hSB hG hV2 HJ2 HSg
      go_upto_region 16 with fail
      obtain ⟨w4, hw4⟩ : ∃ w4, w4 = ((V2.setCell ⟨D, 7, none⟩ (.int .i64 (i : Int))).setCell ⟨D, 8, none⟩ (.slice SA 18 sca)).setCell ⟨D, 9, none⟩ (.slice SB p.length scb) := ⟨_, rfl⟩
      rw [← hw4] at HJ4 ⊢
      clear s0 s1 s2 d7 d8 d9 fD hw4
      clear V2
      have hBw4 := HJ4.out.be
      have c2 : w4.cell? ⟨w.heap.size, 2, none⟩ = some (.slice A m ca) := by rw [Lib.cell_of_heap HJ4.out.sh]; rfl
      go_wp2_with fail
      refine (split_any E ce ns sel m Hl.out.2.2 HselA (by unfold maxLen; omega) (by omega) w4 (HE.out.go hBw4)).mono ?_
      rintro e w5 ⟨rfl, hH5, hB5⟩
      have hJ5 := HJ4.out.go hB5
      have c25 : w5.cell? ⟨w.heap.size, 2, none⟩ = some (.slice A m ca) := by rw [Lib.cell_of_heap hJ5.sh]; rfl
      have hDH : D ≠ w4.heap.size := Nat.ne_of_lt (Array.getElem?_eq_some_iff.1 HJ4.out.dd).1
      obtain ⟨hs, hhs⟩ : ∃ hs, hidL sel m = hs := ⟨_, rfl⟩
      have hhl : hs.length = m := by rw [← hhs]; simp [hidL]
      rw [hhs] at hH5 Hsum
      obtain ⟨H, hH⟩ : ∃ H, H = w4.heap.size := ⟨_, rfl⟩
      rw [← hH] at hH5 hDH ⊢
      have hSl5 : Sl w5 w5.heap.size 1 (some ⟨H, 0, none⟩) m (boolV hs) := sl_cells hH5 rfl (by simp [boolV, hhl])
      have HJ5 := Lib.hid hJ5
      have HH5 := Lib.hid hH5
      have Hhs := Lib.hid (And.intro hhs hhl)
      have HS5 := Lib.hid hSl5
      obtain ⟨hid, hhid⟩ : ∃ s, sumH (rows.map (·.c)) hs m = s := ⟨_, rfl⟩
      rw [hhid] at Hsum
      obtain ⟨hsu1, hsu2⟩ := Hsum.out
      have Hhid := Lib.hid hhid
      have hBw5 := hJ5.be
      clear hH hH5 hhs hhl hSl5 c2 hJ5 hB5 HJ4 hBw4 hhid
      clear w4
      go_wp2_with fail
      refine (sumrow_any A (some ⟨H, 0, none⟩) ca m m rows hs hid Hl.out.1 Hhs.out.2 Hhid (by omega) (fun c hc => by
        obtain ⟨x, hx, rfl⟩ := List.mem_map.1 hc
        obtain ⟨q, hq, rfl⟩ := List.getElem_of_mem hx
        have h1 := (Hk.out q (by rw [← Hl.out.1]; exact hq)).1
        have h2 : rows.getD q default = rows[q] := by rw [List.getD_eq_getElem?_getD, List.getElem?_eq_getElem hq]; rfl
        rw [h2] at h1
        omega) w5 (HA.out.go hBw5) HS5.out).mono ?_
      rintro e w6 ⟨rfl, hB6⟩
      have hJ6 := HJ5.out.go hB6
      have hH6 := (hB6.block H (Array.getElem?_eq_some_iff.1 HH5.out).1).trans HH5.out
      have d5 : w6.cell? ⟨D, 5, none⟩ = some (.int .i64 0) := by rw [Lib.cell_of_heap hJ6.dd]; rfl
      have f5 : w6.frozen? ⟨D, 5, none⟩ = false := Lib.frozen_of_heap hJ6.dd 5
      have hJ7' := hJ6.num (f' := dfB person month root C m cc none 0 0 hid 0 (i : Int) SA sca SB p.length scb) 5 (.int .i64 hid) rfl (fun W' r => ⟨r.c, r.s, r.sp, r.sa, r.sb⟩)
      have hH7 : (w6.setCell ⟨D, 5, none⟩ (.int .i64 hid)).heap[H]? = some (.cells (boolV hs).toArray 4 (0, 0)) := (Below.heap_setCell _ _ _ _ (by show H ≠ D; omega)).trans hH6
      have HJ7 := Lib.hid hJ7'
      have HH7 := Lib.hid hH7
      clear hJ6 hH6 hJ7' hH7 hB6 HJ5 HH5 HS5 hBw5 c25
      go_upto_region 18 with fail
      obtain ⟨w7, hw7⟩ : ∃ w7, w7 = w6.setCell ⟨D, 5, none⟩ (.int .i64 hid) := ⟨_, rfl⟩
      rw [← hw7] at HJ7 HH7 ⊢
      clear d5 f5 hw7
      clear w6
      clear w5
      have d5 : w7.cell? ⟨D, 5, none⟩ = some (.int .i64 hid) := by rw [Lib.cell_of_heap HJ7.out.dd]; rfl
      have c3 : w7.cell? ⟨w.heap.size, 3, none⟩ = some (.slice B m cb) := by rw [Lib.cell_of_heap HJ7.out.sh]; rfl
      have hBw7 := HJ7.out.be
      obtain ⟨bs, hbs⟩ : ∃ s, sumH bl hs m = s := ⟨_, rfl⟩
      have hbs0 : 0 ≤ bs ∧ bs ≤ 1024 * 1073741789 := by
        have h1 := sumH_nn bl hs 1073741789 (fun q hq => by
          have := (Hk.out q (by rw [← Hl.out.2.1]; exact hq)).2
          omega) m
        rw [hbs] at h1
        have h2 := h1.2 (by omega)
        omega
      obtain ⟨bm, hbm⟩ : ∃ b, bs % 1073741789 = b := ⟨_, rfl⟩
      have htm : bs.tmod 1073741789 = bm := by rw [Int.tmod_eq_emod_of_nonneg hbs0.1]; exact hbm
      have Hbs := Lib.hid hbs
      have Hbm := Lib.hid hbm
      have hSl7 : Sl w7 w7.heap.size 1 (some ⟨H, 0, none⟩) m (boolV hs) := sl_cells HH7.out rfl (by simp [boolV, Hhs.out.2])
      have HS7 := Lib.hid hSl7
      clear hbs hbm hSl7
      go_wp2_with fail
      refine (sumint_any B (some ⟨H, 0, none⟩) cb m m bl hs bs Hl.out.2.1 Hhs.out.2 Hbs (by omega) (fun c hc => by
        obtain ⟨q, hq, rfl⟩ := List.getElem_of_mem hc
        have h1 := (Hk.out q (by rw [← Hl.out.2.1]; exact hq)).2
        have h2 : bl.getD q 0 = bl[q] := by rw [List.getD_eq_getElem?_getD, List.getElem?_eq_getElem hq]; rfl
        rw [h2] at h1
        omega) w7 (HB.out.go hBw7) HS7.out).mono ?_
      rintro e w8 ⟨rfl, hB8⟩
      have hJ8 := HJ7.out.go hB8
      have d6 : w8.cell? ⟨D, 6, none⟩ = some (.int .i64 0) := by rw [Lib.cell_of_heap hJ8.dd]; rfl
      have f6 : w8.frozen? ⟨D, 6, none⟩ = false := Lib.frozen_of_heap hJ8.dd 6
      have hJ9 := hJ8.num (f' := dfB person month root C m cc none 0 0 hid bm (i : Int) SA sca SB p.length scb) 6 (.int .i64 bm) rfl (fun W' r => ⟨r.c, r.s, r.sp, r.sa, r.sb⟩)
      have HJ9 := Lib.hid hJ9
      clear hJ8 hJ9 hB8 HJ7 HH7 HS7 hBw7 d5 c3 hDH
      go_upto_region 21 with fail
      obtain ⟨w9, hw9⟩ : ∃ w9, w9 = w8.setCell ⟨D, 6, none⟩ (.int .i64 bm) := ⟨_, rfl⟩
      rw [← hw9] at HJ9 ⊢
      clear d6 f6 hw9 htm hbs0 hsu1 hsu2
      clear w8
      clear w7
      obtain ⟨i2, hi2, hx0, hx1, hx2⟩ := info_parts info_shown
      have hgo : ∀ j, j < ns → ∃ q : Nat, q < m ∧ sel.getD j 0 = (q : Int) := fun j hj => by
        have h1 := HselA.out j (by rw [Hl.out.2.2]; exact hj)
        exact ⟨(sel.getD j 0).toNat, by have := h1.1; have := h1.2.1; omega, by have := h1.1; omega⟩
      have Hgo := Lib.hid hgo
      clear hgo
      go_wp2_with fail
      go_loopw [129] (fun q wr => ∃ j : Nat, j ≤ ns ∧ q = .int .i64 (j : Int) ∧ ∃ S cs ms, ShJ w D #[.string person, .int .i64 month, .slice A m ca, .slice B m cb, .int .u64 root.toNat] (dfB person month root C m cc S j cs hid bm (i : Int) SA sca SB p.length scb) (comL rows bl m) ms (On.chains seed.data.toList (i : Int) dg 18) p _ m (leafK rows bl m) wr ∧ ms.map ShM.key = (sel.take j).map (shkAt rows bl m)) (fun q _ => ns - (intOf q).toNat)
      case atStart => exact ⟨0, Nat.zero_le _, rfl, none, 0, [], HJ9.out, rfl⟩
      case round =>
        clear HJ9
        obtain ⟨j, hj, rfl, S, cs, ms, hJ, hms⟩ := hrel
        have HJ := Lib.hid hJ
        have hBw := hJ.be
        have Hms := Lib.hid hms
        clear hJ hms
        by_cases hlt : j < ns
        · have hlt' : (j : Int) < (ns : Int) := by omega
          obtain ⟨q, hq, hqe⟩ := Hgo.out j hlt
          obtain ⟨b3, o3, rfl, hb3, hc3⟩ := HE.out.2 (by omega)
          have hjl : j < sel.length := by rw [Hl.out.2.2]; exact hlt
          have z3 : wr.cell? ⟨b3, o3 + j, none⟩ = some (.int .i64 (q : Int)) := (hBw.cell (p := ⟨b3, o3 + j, none⟩) hb3).trans (hc3 j _ (by rw [intV_get sel j hjl, hqe]))
          have Htk : Hid ((sel.take (j + 1)).map (shkAt rows bl m) = (sel.take j).map (shkAt rows bl m) ++ [shkAt rows bl m (q : Int)]) := Lib.hid (by
            rw [List.take_add_one, List.map_append, List.getElem?_eq_getElem hjl]
            have : sel[j] = (q : Int) := by rw [← hqe, List.getD_eq_getElem?_getD, List.getElem?_eq_getElem hjl]; rfl
            simp [this])
          clear hc3 hqe hjl
          go_upto_region 24 with fail
          have hLv := HJ.out.lv
          obtain ⟨Lv, lcap, hv13, hSlv⟩ := own_slice hLv
          obtain ⟨p2, hp2⟩ : ∃ p, pathL (leafK rows bl m) (q : Int) = p := ⟨_, rfl⟩
          have hpe : pathE m (q : Int) = 0 := by unfold pathE; rw [if_pos (checkE_in ⟨hn1, hn2⟩), if_pos ⟨by omega, by omega⟩]
          subst hv13
          have HSlv := Lib.hid hSlv
          have Hp2 := Lib.hid (And.intro hp2 hpe)
          clear hLv hSlv hp2 hpe z3
          go_wp2_with fail
          refine (path_own Lv lcap m (leafK rows bl m) (q : Int) p2 0 wr (leafK_len _ _ _) Hp2.out.1 Hp2.out.2 HSlv.out (leafK_size (by rw [Hl.out.1]; exact Nat.le_refl _) Hs.out) (by omega)).mono ?_
          rintro e w1 ⟨PA, pc, rfl, hP, hB1⟩
          have hJd := HJ.out.go hB1.drew
          replace hP := own_mono hP hBw.size
          obtain ⟨b1, o1, rfl, hb1, hc1⟩ := HA.out.2 (by omega)
          obtain ⟨b2, o2, rfl, hb2, hc2⟩ := HB.out.2 (by omega)
          have hql : q < rows.length := by rw [Hl.out.1]; exact hq
          have hqb : q < bl.length := by rw [Hl.out.2.1]; exact hq
          obtain ⟨x, hx⟩ : ∃ x, rows[q] = x := ⟨_, rfl⟩
          obtain ⟨bv, hbv⟩ : ∃ b, bl.getD q 0 = b := ⟨_, rfl⟩
          have hxg : rows.getD q default = x := by rw [List.getD_eq_getElem?_getD, List.getElem?_eq_getElem hql]; exact hx
          have hget := flat_get rowV 3 (fun _ => rfl) rows q hql
          rw [hx] at hget
          have Hkey : Hid (ShM.key ⟨(q : Int), x, bv, PA, pc, p2⟩ = shkAt rows bl m (q : Int)) := Lib.hid (by
            unfold shkAt ShM.key
            rw [Int.toNat_natCast, hxg, hbv, Hp2.out.1])
          obtain ⟨xl, xc, xr⟩ := x
          have hr0 : ∀ W, Below w.heap.size w W → W.cell? ⟨b1, o1 + q * 3, none⟩ = some (.string xl) := fun W hW => (hW.cell (p := ⟨b1, o1 + q * 3, none⟩) hb1).trans (hc1 _ _ (hget 0 (by decide)))
          have hr1 : ∀ W, Below w.heap.size w W → W.cell? ⟨b1, o1 + q * 3 + 1, none⟩ = some (.int .i64 xc) := fun W hW => (hW.cell (p := ⟨b1, o1 + q * 3 + 1, none⟩) hb1).trans (hc1 _ _ (hget 1 (by decide)))
          have hr2 : ∀ W, Below w.heap.size w W → W.cell? ⟨b1, o1 + q * 3 + 2, none⟩ = some (.string xr) := fun W hW => (hW.cell (p := ⟨b1, o1 + q * 3 + 2, none⟩) hb1).trans (hc1 _ _ (hget 2 (by decide)))
          have hrb : ∀ W, Below w.heap.size w W → W.cell? ⟨b2, o2 + q, none⟩ = some (.int .i64 bv) := fun W hW => (hW.cell (p := ⟨b2, o2 + q, none⟩) hb2).trans (hc2 _ _ (by rw [intV_get bl q hqb, hbv]))
          have hS2 : ∀ W : World, W.heap[w.heap.size]? = some (.cells #[.string person, .int .i64 month, .slice (some ⟨b1, o1, none⟩) m ca, .slice (some ⟨b2, o2, none⟩) m cb, .int .u64 root.toNat] 27 (0, 0)) → W.cell? ⟨w.heap.size, 2, none⟩ = some (.slice (some ⟨b1, o1, none⟩) m ca) := fun W hW => by rw [Lib.cell_of_heap hW]; rfl
          have hS3 : ∀ W : World, W.heap[w.heap.size]? = some (.cells #[.string person, .int .i64 month, .slice (some ⟨b1, o1, none⟩) m ca, .slice (some ⟨b2, o2, none⟩) m cb, .int .u64 root.toNat] 27 (0, 0)) → W.cell? ⟨w.heap.size, 3, none⟩ = some (.slice (some ⟨b2, o2, none⟩) m cb) := fun W hW => by rw [Lib.cell_of_heap hW]; rfl
          have hJa := hJd.al (.cells #[.int .i64 (q : Int), .string xl, .int .i64 xc, .string xr, .int .i64 bv, .slice PA p2.length pc] 48)
          have hPa : (w1.drew.alloc (.cells #[.int .i64 (q : Int), .string xl, .int .i64 xc, .string xr, .int .i64 bv, .slice PA p2.length pc] 48)).ownsRow w.heap.size 93 2 (.slice PA p2.length pc) p2.length (forkV p2) := World.ownsRow.alloc (w := w1.drew) hP (.cells #[.int .i64 (q : Int), .string xl, .int .i64 xc, .string xr, .int .i64 bv, .slice PA p2.length pc] 48)
          have kd0 : w1.drew.cell? ⟨D, 4, none⟩ = some (.slice S j cs) := by rw [Lib.cell_of_heap hJd.dd]; rfl
          have kd1 : (w1.drew.alloc (.cells #[.int .i64 (q : Int), .string xl, .int .i64 xc, .string xr, .int .i64 bv, .slice PA p2.length pc] 48)).cell? ⟨D, 4, none⟩ = some (.slice S j cs) := by rw [Lib.cell_of_heap hJa.dd]; rfl
          have kd2 : (w1.alloc (.cells #[.int .i64 (q : Int), .string xl, .int .i64 xc, .string xr, .int .i64 bv, .slice PA p2.length pc] 48)).cell? ⟨D, 4, none⟩ = some (.slice S j cs) := kd1
          have hH0 : Below w.heap.size w w1.drew ∧ w1.drew.heap[w.heap.size]? = some (.cells #[.string person, .int .i64 month, .slice (some ⟨b1, o1, none⟩) m ca, .slice (some ⟨b2, o2, none⟩) m cb, .int .u64 root.toNat] 27 (0, 0)) := ⟨hJd.be, hJd.sh⟩
          have hH1 : Below w.heap.size w (w1.drew.alloc (.cells #[.int .i64 (q : Int), .string xl, .int .i64 xc, .string xr, .int .i64 bv, .slice PA p2.length pc] 48)) ∧ (w1.drew.alloc (.cells #[.int .i64 (q : Int), .string xl, .int .i64 xc, .string xr, .int .i64 bv, .slice PA p2.length pc] 48)).heap[w.heap.size]? = some (.cells #[.string person, .int .i64 month, .slice (some ⟨b1, o1, none⟩) m ca, .slice (some ⟨b2, o2, none⟩) m cb, .int .u64 root.toNat] 27 (0, 0)) := ⟨hJa.be, hJa.sh⟩
          have HH0 := Lib.hid hH0
          have HH1 := Lib.hid hH1
          have HJa := Lib.hid hJa
          have HPa := Lib.hid hPa
          have hq' : (q : Int) < (m : Int) := by omega
          have hDw : w.heap.size + 1 < D := HJ.out.hD
          clear hx hbv hxg hget hc1 hc2 hql hqb hJd hP hJa hPa hH0 hH1 hB1 HJ HSlv hBw
          go_upto_region 27 with fail
          refine wp_region_noPanic ?_
          refine wp_region_held_drew (S := fun W => Below w.heap.size w W ∧ W.heap[w.heap.size]? = some (.cells #[.string person, .int .i64 month, .slice (some ⟨b1, o1, none⟩) m ca, .slice (some ⟨b2, o2, none⟩) m cb, .int .u64 root.toNat] 27 (0, 0))) (by kernel_rfl) HH0.out (fun hHeld => ?_)
          refine wpAnyH_take (i := 0) (v := ?_) rfl (by kernel_rfl) (by kernel_rfl) (by kernel_rfl) (fun _ _ _ h => h) (Or.inl ⟨by kernel_rfl, ?_⟩) (by assumption) ?_
          rotate_left
          · intro w hSw
            (try dsimp only at hSw)
            go_simp
            first | done | with_reducible rfl
          simp only [List.getElem_toArray, List.getElem_cons_zero, List.getElem_cons_succ, Act.put, List.setIfInBounds_toArray, List.set_cons_zero, List.set_cons_succ]
          refine wpAnyH_take (i := 2) (v := ?_) rfl (by kernel_rfl) (by kernel_rfl) (by kernel_rfl) (fun _ _ _ h => h) (Or.inl ⟨by kernel_rfl, ?_⟩) (by assumption) ?_
          rotate_left
          · intro w hSw
            (try dsimp only at hSw)
            go_simp
            first | done | with_reducible rfl
          simp only [List.getElem_toArray, List.getElem_cons_zero, List.getElem_cons_succ, Act.put, List.setIfInBounds_toArray, List.set_cons_zero, List.set_cons_succ]
          refine wpAnyH_take (i := 3) (v := ?_) rfl (by kernel_rfl) (by kernel_rfl) (by kernel_rfl) (fun _ _ _ h => h) (Or.inl ⟨by kernel_rfl, ?_⟩) (by assumption) ?_
          rotate_left
          · intro w hSw
            (try dsimp only at hSw)
            go_simp
            first | done | with_reducible rfl
          simp only [List.getElem_toArray, List.getElem_cons_zero, List.getElem_cons_succ, Act.put, List.setIfInBounds_toArray, List.set_cons_zero, List.set_cons_succ]
          refine wpAnyH_take (i := 4) (v := ?_) rfl (by kernel_rfl) (by kernel_rfl) (by kernel_rfl) (fun _ _ _ h => h) (Or.inl ⟨by kernel_rfl, ?_⟩) (by assumption) ?_
          rotate_left
          · intro w hSw
            (try dsimp only at hSw)
            have z0 := hS2 w hSw.2
            go_simp
            first | done | with_reducible rfl
          simp only [List.getElem_toArray, List.getElem_cons_zero, List.getElem_cons_succ, Act.put, List.setIfInBounds_toArray, List.set_cons_zero, List.set_cons_succ]
          refine wpAnyH_take (i := 5) (v := ?_) rfl (by kernel_rfl) (by kernel_rfl) (by kernel_rfl) (fun _ _ _ h => h) (Or.inl ⟨by kernel_rfl, ?_⟩) (by assumption) ?_
          rotate_left
          · intro w hSw
            (try dsimp only at hSw)
            go_simp
            first | done | with_reducible rfl
          simp only [List.getElem_toArray, List.getElem_cons_zero, List.getElem_cons_succ, Act.put, List.setIfInBounds_toArray, List.set_cons_zero, List.set_cons_succ]
          refine wpAnyH_take (i := 6) (v := ?_) rfl (by kernel_rfl) (by kernel_rfl) (by kernel_rfl) (fun _ _ _ h => h) (Or.inl ⟨by kernel_rfl, ?_⟩) (by assumption) ?_
          rotate_left
          · intro w hSw
            (try dsimp only at hSw)
            go_simp
            first | done | with_reducible rfl
          simp only [List.getElem_toArray, List.getElem_cons_zero, List.getElem_cons_succ, Act.put, List.setIfInBounds_toArray, List.set_cons_zero, List.set_cons_succ]
          refine wpAnyH_take (i := 7) (v := ?_) rfl (by kernel_rfl) (by kernel_rfl) (by kernel_rfl) (fun _ _ _ h => h) (Or.inl ⟨by kernel_rfl, ?_⟩) (by assumption) ?_
          rotate_left
          · intro w hSw
            (try dsimp only at hSw)
            have z0 := hr0 w hSw.1
            have z1 := hr1 w hSw.1
            have z2 := hr2 w hSw.1
            go_simp
            first | done | with_reducible rfl
          simp only [List.getElem_toArray, List.getElem_cons_zero, List.getElem_cons_succ, Act.put, List.setIfInBounds_toArray, List.set_cons_zero, List.set_cons_succ]
          refine wpAnyH_take (i := 8) (v := ?_) rfl (by kernel_rfl) (by kernel_rfl) (by kernel_rfl) (fun _ _ _ h => h) (Or.inl ⟨by kernel_rfl, ?_⟩) (by assumption) ?_
          rotate_left
          · intro w hSw
            (try dsimp only at hSw)
            go_simp
            first | done | with_reducible rfl
          simp only [List.getElem_toArray, List.getElem_cons_zero, List.getElem_cons_succ, Act.put, List.setIfInBounds_toArray, List.set_cons_zero, List.set_cons_succ]
          refine wpAnyH_take (i := 9) (v := ?_) rfl (by kernel_rfl) (by kernel_rfl) (by kernel_rfl) (fun _ _ _ h => h) (Or.inl ⟨by kernel_rfl, ?_⟩) (by assumption) ?_
          rotate_left
          · intro w hSw
            (try dsimp only at hSw)
            have z0 := hS3 w hSw.2
            go_simp
            first | done | with_reducible rfl
          simp only [List.getElem_toArray, List.getElem_cons_zero, List.getElem_cons_succ, Act.put, List.setIfInBounds_toArray, List.set_cons_zero, List.set_cons_succ]
          refine wpAnyH_take (i := 10) (v := ?_) rfl (by kernel_rfl) (by kernel_rfl) (by kernel_rfl) (fun _ _ _ h => h) (Or.inl ⟨by kernel_rfl, ?_⟩) (by assumption) ?_
          rotate_left
          · intro w hSw
            (try dsimp only at hSw)
            go_simp
            first | done | with_reducible rfl
          simp only [List.getElem_toArray, List.getElem_cons_zero, List.getElem_cons_succ, Act.put, List.setIfInBounds_toArray, List.set_cons_zero, List.set_cons_succ]
          refine wpAnyH_take (i := 11) (v := ?_) rfl (by kernel_rfl) (by kernel_rfl) (by kernel_rfl) (fun _ _ _ h => h) (Or.inl ⟨by kernel_rfl, ?_⟩) (by assumption) ?_
          rotate_left
          · intro w hSw
            (try dsimp only at hSw)
            go_simp
            first | done | with_reducible rfl
          simp only [List.getElem_toArray, List.getElem_cons_zero, List.getElem_cons_succ, Act.put, List.setIfInBounds_toArray, List.set_cons_zero, List.set_cons_succ]
          refine wpAnyH_take (i := 12) (v := ?_) rfl (by kernel_rfl) (by kernel_rfl) (by kernel_rfl) (fun _ _ _ h => h) (Or.inl ⟨by kernel_rfl, ?_⟩) (by assumption) ?_
          rotate_left
          · intro w hSw
            (try dsimp only at hSw)
            have z0 := hrb w hSw.1
            go_simp
            first | done | with_reducible rfl
          simp only [List.getElem_toArray, List.getElem_cons_zero, List.getElem_cons_succ, Act.put, List.setIfInBounds_toArray, List.set_cons_zero, List.set_cons_succ]
          refine wpAnyH_take (i := 13) (v := ?_) rfl (by kernel_rfl) (by kernel_rfl) (by kernel_rfl) (fun _ _ _ h => h) (Or.inl ⟨by kernel_rfl, ?_⟩) (by assumption) ?_
          rotate_left
          · intro w hSw
            (try dsimp only at hSw)
            go_simp
            first | done | with_reducible rfl
          simp only [List.getElem_toArray, List.getElem_cons_zero, List.getElem_cons_succ, Act.put, List.setIfInBounds_toArray, List.set_cons_zero, List.set_cons_succ]
          refine wpAnyH_take (i := 14) (v := ?_) rfl (by kernel_rfl) (by kernel_rfl) (by kernel_rfl) (fun _ _ _ h => h) (Or.inl ⟨by kernel_rfl, ?_⟩) (by assumption) ?_
          rotate_left
          · intro w hSw
            (try dsimp only at hSw)
            go_simp
            first | done | with_reducible rfl
          simp only [List.getElem_toArray, List.getElem_cons_zero, List.getElem_cons_succ, Act.put, List.setIfInBounds_toArray, List.set_cons_zero, List.set_cons_succ]
          refine wpAnyH_ready (rs := [1, 15]) (by kernel_rfl) (by simp) ?_
          refine AllReadyH.cons rfl (fun K hK => ?_) ?_
          · simp only [List.getElem_toArray, List.getElem_cons_zero, List.getElem_cons_succ]
            go_simp
            refine hK.out _ _ HH0.out (fun hHeld => ?_)
            clear hK K
            try simp only [List.getElem_toArray, List.getElem_cons_zero, List.getElem_cons_succ, Act.put, List.setIfInBounds_toArray, List.set_cons_zero, List.set_cons_succ]
            refine wpAnyH_ready (rs := [15]) (by kernel_rfl) (by simp) ?_
            refine AllReadyH.cons rfl (fun K hK => ?_) ?_
            · simp only [List.getElem_toArray, List.getElem_cons_zero, List.getElem_cons_succ]
              go_simp
              refine hK.out _ _ HH1.out (fun hHeld => ?_)
              clear hK K
              try simp only [List.getElem_toArray, List.getElem_cons_zero, List.getElem_cons_succ, Act.put, List.setIfInBounds_toArray, List.set_cons_zero, List.set_cons_succ]
              refine wpAnyH_ready (rs := [16]) (by kernel_rfl) (by simp) ?_
              refine AllReadyH.cons rfl (fun K hK => ?_) ?_
              · refine step_src (w0 := w) (by rfl) _ _ 30 (by rfl) 48 i2 (.agg #[.int .i64 0, .string ⟨#[]⟩, .int .i64 0, .string ⟨#[]⟩, .int .i64 0, .slice none 0 0]) 6 80 Tryz.underlying30 hi2 hx0 hx1 hx2 (by rfl) (by decide) (.slice S j cs) j (shmsV ms) (by rfl) HJa.out.rw.s HJa.out.be (.slice (some ⟨w1.drew.heap.size, 0, none⟩) 1 1) 1 [.int .i64 (q : Int), .string xl, .int .i64 xc, .string xr, .int .i64 bv, .slice PA p2.length pc] (by rfl) (block_src w1.drew [.int .i64 (q : Int), .string xl, .int .i64 xc, .string xr, .int .i64 bv, .slice PA p2.length pc] _ _ 1 1 6 rfl) (by simp [Value.oneCell']) (by unfold maxLen; omega) (by omega) ?_
                intro v7 w7 hown7 hB7 hk7
                obtain ⟨S7, c7, hv7, _⟩ := own_slice hown7
                subst hv7
                have hb7 := (hk7.2 D (Array.getElem?_eq_some_iff.1 HJa.out.dd).1 (own_ne HJa.out.rw.s HJa.out.dd (by decide))).trans HJa.out.dd
                have hs7 := (hk7.2 w.heap.size (Array.getElem?_eq_some_iff.1 HJa.out.sh).1 (own_ne HJa.out.rw.s HJa.out.sh (by decide))).trans HJa.out.sh
                have kc7 : w7.cell? ⟨D, 4, none⟩ = some (.slice S j cs) := by rw [Lib.cell_of_heap hb7]; rfl
                have kf7 : w7.frozen? ⟨D, 4, none⟩ = false := Lib.frozen_of_heap hb7 4
                have hH8 : Below w.heap.size w (w7.setCell ⟨D, 4, none⟩ (.slice S7 (j + 1) c7)) ∧ (w7.setCell ⟨D, 4, none⟩ (.slice S7 (j + 1) c7)).heap[w.heap.size]? = some (.cells #[.string person, .int .i64 month, .slice (some ⟨b1, o1, none⟩) m ca, .slice (some ⟨b2, o2, none⟩) m cb, .int .u64 root.toNat] 27 (0, 0)) := ⟨hB7.setCell (by show w.heap.size ≤ D; omega) _, (Below.heap_setCell _ _ _ _ (by show w.heap.size ≠ D; omega)).trans hs7⟩
                refine hK.out _ _ ⟨hB7, hs7⟩ (fun hHeld => ?_)
                clear hK K
                try simp only [List.getElem_toArray, List.getElem_cons_zero, List.getElem_cons_succ, Act.put, List.setIfInBounds_toArray, List.set_cons_zero, List.set_cons_succ]
                refine wpAnyH_take (i := 17) (v := ?_) rfl (by kernel_rfl) (by kernel_rfl) (by kernel_rfl) (fun _ _ _ h => h) (Or.inl ⟨by kernel_rfl, ?_⟩) (by assumption) ?_
                rotate_left
                · intro w hSw
                  (try dsimp only at hSw)
                  go_simp
                  first | done | with_reducible rfl
                simp only [List.getElem_toArray, List.getElem_cons_zero, List.getElem_cons_succ, Act.put, List.setIfInBounds_toArray, List.set_cons_zero, List.set_cons_succ]
                refine wpAnyH_ready (rs := [18]) (by kernel_rfl) (by simp) ?_
                refine AllReadyH.cons rfl (fun K hK => ?_) ?_
                · simp only [List.getElem_toArray, List.getElem_cons_zero, List.getElem_cons_succ]
                  go_simp
                  refine hK.out _ _ hH8 (fun hHeld => ?_)
                  clear hK K
                  try simp only [List.getElem_toArray, List.getElem_cons_zero, List.getElem_cons_succ, Act.put, List.setIfInBounds_toArray, List.set_cons_zero, List.set_cons_succ]
                  refine wpAnyH_done (by kernel_rfl) ?_ _
                  dsimp only [NoPanic]
                  have hJ9 := HJa.out.shown (x := ⟨(q : Int), ⟨xl, xc, xr⟩, bv, PA, pc, p2⟩) HPa.out hk7 hB7 hown7
                  have HJ9 := Lib.hid hJ9
                  clear hHeld hown7 hb7 hs7 hB7 hk7 kc7 kf7 hH8 hJ9 kd0 kd1 kd2 HH0 HH1 HJa HPa
                  go_wp2
                  go_roundw
                  case rel => exact ⟨j + 1, by omega, by go_num, S7, c7, _, HJ9.out, by rw [List.map_append, Hms.out, Htk.out, ← Hkey.out]; rfl⟩
                  case measure => simp [intOf]; omega
                exact AllReadyH.nil
              exact AllReadyH.nil
            exact AllReadyH.nil
          refine AllReadyH.cons rfl (fun K hK => ?_) ?_
          · simp only [List.getElem_toArray, List.getElem_cons_zero, List.getElem_cons_succ]
            go_simp
            refine hK.out _ _ HH1.out (fun hHeld => ?_)
            clear hK K
            try simp only [List.getElem_toArray, List.getElem_cons_zero, List.getElem_cons_succ, Act.put, List.setIfInBounds_toArray, List.set_cons_zero, List.set_cons_succ]
            refine wpAnyH_ready (rs := [1]) (by kernel_rfl) (by simp) ?_
            refine AllReadyH.cons rfl (fun K hK => ?_) ?_
            · simp only [List.getElem_toArray, List.getElem_cons_zero, List.getElem_cons_succ]
              go_simp
              refine hK.out _ _ HH1.out (fun hHeld => ?_)
              clear hK K
              try simp only [List.getElem_toArray, List.getElem_cons_zero, List.getElem_cons_succ, Act.put, List.setIfInBounds_toArray, List.set_cons_zero, List.set_cons_succ]
              refine wpAnyH_ready (rs := [16]) (by kernel_rfl) (by simp) ?_
              refine AllReadyH.cons rfl (fun K hK => ?_) ?_
              · refine step_src (w0 := w) (by rfl) _ _ 30 (by rfl) 48 i2 (.agg #[.int .i64 0, .string ⟨#[]⟩, .int .i64 0, .string ⟨#[]⟩, .int .i64 0, .slice none 0 0]) 6 80 Tryz.underlying30 hi2 hx0 hx1 hx2 (by rfl) (by decide) (.slice S j cs) j (shmsV ms) (by rfl) HJa.out.rw.s HJa.out.be (.slice (some ⟨w1.drew.heap.size, 0, none⟩) 1 1) 1 [.int .i64 (q : Int), .string xl, .int .i64 xc, .string xr, .int .i64 bv, .slice PA p2.length pc] (by rfl) (block_src w1.drew [.int .i64 (q : Int), .string xl, .int .i64 xc, .string xr, .int .i64 bv, .slice PA p2.length pc] _ _ 1 1 6 rfl) (by simp [Value.oneCell']) (by unfold maxLen; omega) (by omega) ?_
                intro v7 w7 hown7 hB7 hk7
                obtain ⟨S7, c7, hv7, _⟩ := own_slice hown7
                subst hv7
                have hb7 := (hk7.2 D (Array.getElem?_eq_some_iff.1 HJa.out.dd).1 (own_ne HJa.out.rw.s HJa.out.dd (by decide))).trans HJa.out.dd
                have hs7 := (hk7.2 w.heap.size (Array.getElem?_eq_some_iff.1 HJa.out.sh).1 (own_ne HJa.out.rw.s HJa.out.sh (by decide))).trans HJa.out.sh
                have kc7 : w7.cell? ⟨D, 4, none⟩ = some (.slice S j cs) := by rw [Lib.cell_of_heap hb7]; rfl
                have kf7 : w7.frozen? ⟨D, 4, none⟩ = false := Lib.frozen_of_heap hb7 4
                have hH8 : Below w.heap.size w (w7.setCell ⟨D, 4, none⟩ (.slice S7 (j + 1) c7)) ∧ (w7.setCell ⟨D, 4, none⟩ (.slice S7 (j + 1) c7)).heap[w.heap.size]? = some (.cells #[.string person, .int .i64 month, .slice (some ⟨b1, o1, none⟩) m ca, .slice (some ⟨b2, o2, none⟩) m cb, .int .u64 root.toNat] 27 (0, 0)) := ⟨hB7.setCell (by show w.heap.size ≤ D; omega) _, (Below.heap_setCell _ _ _ _ (by show w.heap.size ≠ D; omega)).trans hs7⟩
                refine hK.out _ _ ⟨hB7, hs7⟩ (fun hHeld => ?_)
                clear hK K
                try simp only [List.getElem_toArray, List.getElem_cons_zero, List.getElem_cons_succ, Act.put, List.setIfInBounds_toArray, List.set_cons_zero, List.set_cons_succ]
                refine wpAnyH_take (i := 17) (v := ?_) rfl (by kernel_rfl) (by kernel_rfl) (by kernel_rfl) (fun _ _ _ h => h) (Or.inl ⟨by kernel_rfl, ?_⟩) (by assumption) ?_
                rotate_left
                · intro w hSw
                  (try dsimp only at hSw)
                  go_simp
                  first | done | with_reducible rfl
                simp only [List.getElem_toArray, List.getElem_cons_zero, List.getElem_cons_succ, Act.put, List.setIfInBounds_toArray, List.set_cons_zero, List.set_cons_succ]
                refine wpAnyH_ready (rs := [18]) (by kernel_rfl) (by simp) ?_
                refine AllReadyH.cons rfl (fun K hK => ?_) ?_
                · simp only [List.getElem_toArray, List.getElem_cons_zero, List.getElem_cons_succ]
                  go_simp
                  refine hK.out _ _ hH8 (fun hHeld => ?_)
                  clear hK K
                  try simp only [List.getElem_toArray, List.getElem_cons_zero, List.getElem_cons_succ, Act.put, List.setIfInBounds_toArray, List.set_cons_zero, List.set_cons_succ]
                  refine wpAnyH_done (by kernel_rfl) ?_ _
                  dsimp only [NoPanic]
                  have hJ9 := HJa.out.shown (x := ⟨(q : Int), ⟨xl, xc, xr⟩, bv, PA, pc, p2⟩) HPa.out hk7 hB7 hown7
                  have HJ9 := Lib.hid hJ9
                  clear hHeld hown7 hb7 hs7 hB7 hk7 kc7 kf7 hH8 hJ9 kd0 kd1 kd2 HH0 HH1 HJa HPa
                  go_wp2
                  go_roundw
                  case rel => exact ⟨j + 1, by omega, by go_num, S7, c7, _, HJ9.out, by rw [List.map_append, Hms.out, Htk.out, ← Hkey.out]; rfl⟩
                  case measure => simp [intOf]; omega
                exact AllReadyH.nil
              exact AllReadyH.nil
            exact AllReadyH.nil
          exact AllReadyH.nil
        · obtain rfl : ns = j := by omega
          have hdd := HJ.out.dd
          have hres := HJ.out.rs
          have k0 : wr.cell? ⟨D, 0, none⟩ = some (.string person) := by rw [Lib.cell_of_heap hdd]; rfl
          have k1 : wr.cell? ⟨D, 1, none⟩ = some (.int .i64 month) := by rw [Lib.cell_of_heap hdd]; rfl
          have k2 : wr.cell? ⟨D, 2, none⟩ = some (.int .u64 root.toNat) := by rw [Lib.cell_of_heap hdd]; rfl
          have k3 : wr.cell? ⟨D, 3, none⟩ = some (.slice C m cc) := by rw [Lib.cell_of_heap hdd]; rfl
          have k4 : wr.cell? ⟨D, 4, none⟩ = some (.slice S ns cs) := by rw [Lib.cell_of_heap hdd]; rfl
          have k5 : wr.cell? ⟨D, 5, none⟩ = some (.int .i64 hid) := by rw [Lib.cell_of_heap hdd]; rfl
          have k6 : wr.cell? ⟨D, 6, none⟩ = some (.int .i64 bm) := by rw [Lib.cell_of_heap hdd]; rfl
          have k7 : wr.cell? ⟨D, 7, none⟩ = some (.int .i64 (i : Int)) := by rw [Lib.cell_of_heap hdd]; rfl
          have k8 : wr.cell? ⟨D, 8, none⟩ = some (.slice SA 18 sca) := by rw [Lib.cell_of_heap hdd]; rfl
          have k9 : wr.cell? ⟨D, 9, none⟩ = some (.slice SB p.length scb) := by rw [Lib.cell_of_heap hdd]; rfl
          have r0 : wr.cell? ⟨w.heap.size + 1, 0, none⟩ = some (.string ⟨#[]⟩) := by rw [Lib.cell_of_heap hres]; rfl
          have r1 : wr.cell? ⟨w.heap.size + 1, 1, none⟩ = some (.int .i64 0) := by rw [Lib.cell_of_heap hres]; rfl
          have r2 : wr.cell? ⟨w.heap.size + 1, 2, none⟩ = some (.int .u64 0) := by rw [Lib.cell_of_heap hres]; rfl
          have r3 : wr.cell? ⟨w.heap.size + 1, 3, none⟩ = some (.slice none 0 0) := by rw [Lib.cell_of_heap hres]; rfl
          have r4 : wr.cell? ⟨w.heap.size + 1, 4, none⟩ = some (.slice none 0 0) := by rw [Lib.cell_of_heap hres]; rfl
          have r5 : wr.cell? ⟨w.heap.size + 1, 5, none⟩ = some (.int .i64 0) := by rw [Lib.cell_of_heap hres]; rfl
          have r6 : wr.cell? ⟨w.heap.size + 1, 6, none⟩ = some (.int .i64 0) := by rw [Lib.cell_of_heap hres]; rfl
          have r7 : wr.cell? ⟨w.heap.size + 1, 7, none⟩ = some (.int .i64 0) := by rw [Lib.cell_of_heap hres]; rfl
          have r8 : wr.cell? ⟨w.heap.size + 1, 8, none⟩ = some (.slice none 0 0) := by rw [Lib.cell_of_heap hres]; rfl
          have r9 : wr.cell? ⟨w.heap.size + 1, 9, none⟩ = some (.slice none 0 0) := by rw [Lib.cell_of_heap hres]; rfl
          have f0 : ∀ j, wr.frozen? ⟨w.heap.size + 1, j, none⟩ = false := fun j => Lib.frozen_of_heap hres j
          have G := Lib.hid (And.intro hdd hres)
          clear hdd hres
          go_wp2_with fail
          obtain ⟨hdd, hres⟩ := G.out
          have e0 := HJ.out.rw
          have b0 := HJ.out.be
          have z0 := hres
          have e1 := e0.set (j := 0) (u := .string person) z0 rfl
          have z1 := setCell_heap (j := 0) (v := .string person) z0
          have b1 := b0.setCell (p := ⟨w.heap.size + 1, 0, none⟩) (by show w.heap.size ≤ w.heap.size + 1; omega) (.string person)
          have e2 := e1.set (j := 1) (u := .int .i64 month) z1 rfl
          have z2 := setCell_heap (j := 1) (v := .int .i64 month) z1
          have b2 := b1.setCell (p := ⟨w.heap.size + 1, 1, none⟩) (by show w.heap.size ≤ w.heap.size + 1; omega) (.int .i64 month)
          have e3 := e2.set (j := 2) (u := .int .u64 root.toNat) z2 rfl
          have z3 := setCell_heap (j := 2) (v := .int .u64 root.toNat) z2
          have b3 := b2.setCell (p := ⟨w.heap.size + 1, 2, none⟩) (by show w.heap.size ≤ w.heap.size + 1; omega) (.int .u64 root.toNat)
          have e4 := e3.set (j := 3) (u := .slice C m cc) z3 rfl
          have z4 := setCell_heap (j := 3) (v := .slice C m cc) z3
          have b4 := b3.setCell (p := ⟨w.heap.size + 1, 3, none⟩) (by show w.heap.size ≤ w.heap.size + 1; omega) (.slice C m cc)
          have e5 := e4.set (j := 4) (u := .slice S ns cs) z4 rfl
          have z5 := setCell_heap (j := 4) (v := .slice S ns cs) z4
          have b5 := b4.setCell (p := ⟨w.heap.size + 1, 4, none⟩) (by show w.heap.size ≤ w.heap.size + 1; omega) (.slice S ns cs)
          have e6 := e5.set (j := 5) (u := .int .i64 hid) z5 rfl
          have z6 := setCell_heap (j := 5) (v := .int .i64 hid) z5
          have b6 := b5.setCell (p := ⟨w.heap.size + 1, 5, none⟩) (by show w.heap.size ≤ w.heap.size + 1; omega) (.int .i64 hid)
          have e7 := e6.set (j := 6) (u := .int .i64 bm) z6 rfl
          have z7 := setCell_heap (j := 6) (v := .int .i64 bm) z6
          have b7 := b6.setCell (p := ⟨w.heap.size + 1, 6, none⟩) (by show w.heap.size ≤ w.heap.size + 1; omega) (.int .i64 bm)
          have e8 := e7.set (j := 7) (u := .int .i64 (i : Int)) z7 rfl
          have z8 := setCell_heap (j := 7) (v := .int .i64 (i : Int)) z7
          have b8 := b7.setCell (p := ⟨w.heap.size + 1, 7, none⟩) (by show w.heap.size ≤ w.heap.size + 1; omega) (.int .i64 (i : Int))
          have e9 := e8.set (j := 8) (u := .slice SA 18 sca) z8 rfl
          have z9 := setCell_heap (j := 8) (v := .slice SA 18 sca) z8
          have b9 := b8.setCell (p := ⟨w.heap.size + 1, 8, none⟩) (by show w.heap.size ≤ w.heap.size + 1; omega) (.slice SA 18 sca)
          have e10 := e9.set (j := 9) (u := .slice SB p.length scb) z9 rfl
          have z10 := setCell_heap (j := 9) (v := .slice SB p.length scb) z9
          have b10 := b9.setCell (p := ⟨w.heap.size + 1, 9, none⟩) (by show w.heap.size ≤ w.heap.size + 1; omega) (.slice SB p.length scb)
          refine bodyPost_ret (v := .tuple #[.agg (dfB person month root C m cc S ns cs hid bm (i : Int) SA sca SB p.length scb).cells, .int .i64 0]) (by simp [results, Tryz.results6, go_sem, dfB, DF.cells, r0, r1, r2, r3, r4, r5, r6, r7, r8, r9]) rfl ⟨dfB person month root C m cc S ns cs hid bm (i : Int) SA sca SB p.length scb, comL rows bl m, ms, On.chains seed.data.toList (i : Int) dg 18, p, rfl, ?_, e10, b10⟩
          refine ⟨rfl, rfl, rfl, rfl, rfl, ?_, Hl.out.2.2.symm, ?_, ?_, rfl, ?_, Hp.out.symm, rfl, rfl⟩
          · rw [Hms.out, List.take_of_length_le (by rw [Hl.out.2.2]; exact Nat.le_refl _)]
          · show hid = _
            rw [Hhs.out.1, Hhid.out]
          · show bm = _
            rw [Hhs.out.1, Hbs.out, Hbm.out]
          · rw [Htx.out, Hdg.out]
end Go.Proofs.YtfjkmhbipkoefaaGreatDoor
