/- The walk of the reference's Show (layer 36). -/
import Derived.Test.YtfjkmhbipkoefaaGreatDoorQ29
import Derived.Test.YtfjkmhbipkoefaaGreatDoorQ30
import Derived.Test.YtfjkmhbipkoefaaGreatDoorQ33
import Derived.Test.YtfjkmhbipkoefaaGreatDoorQ20
namespace Go.Proofs.YtfjkmhbipkoefaaGreatDoor
open Go.RowKit Go.Shelf
set_option linter.unusedVariables false
set_option linter.unusedSimpArgs false
set_option maxRecDepth 100000
/-- The rows below k that a selection has. -/
def selK (sel : List Int) (k : Nat) : List Int := ((List.range k).map fun (q : Nat) => (q : Int)).filter fun x => decide (x ∈ sel)
theorem selK_in {sel : List Int} {k : Nat} (h : (k : Int) ∈ sel) : selK sel (k + 1) = selK sel k ++ [(k : Int)] := by simp [selK, List.range_succ, h]
theorem selK_out {sel : List Int} {k : Nat} (h : ¬ (k : Int) ∈ sel) : selK sel (k + 1) = selK sel k := by simp [selK, List.range_succ, h]
theorem inc_ext : ∀ (l l' : List Int), l.Pairwise (· < ·) → l'.Pairwise (· < ·) → (∀ x, x ∈ l ↔ x ∈ l') → l = l'
  | [], [], _, _, _ => rfl
  | [], y :: l', _, _, h => absurd ((h y).2 (List.mem_cons_self)) (List.not_mem_nil)
  | x :: l, [], _, _, h => absurd ((h x).1 (List.mem_cons_self)) (List.not_mem_nil)
  | x :: l, y :: l', h1, h2, h => by
    obtain ⟨a1, b1⟩ := List.pairwise_cons.1 h1
    obtain ⟨a2, b2⟩ := List.pairwise_cons.1 h2
    have hxy : x = y := by
      rcases List.mem_cons.1 ((h x).1 (List.mem_cons_self)) with e | e
      · exact e
      · rcases List.mem_cons.1 ((h y).2 (List.mem_cons_self)) with e2 | e2
        · exact e2.symm
        · have := a1 y e2; have := a2 x e; omega
    subst hxy
    rw [inc_ext l l' b1 b2 fun z => ?_]
    constructor
    · intro hz
      rcases List.mem_cons.1 ((h z).1 (List.mem_cons_of_mem _ hz)) with e | e
      · subst e; have := a1 z hz; omega
      · exact e
    · intro hz
      rcases List.mem_cons.1 ((h z).2 (List.mem_cons_of_mem _ hz)) with e | e
      · subst e; have := a2 z hz; omega
      · exact e
theorem sel_inc {sel : List Int} {m : Int} (h : selB sel m = true) : sel.Pairwise (· < ·) := by
  have ha : ∀ j, j < sel.length → selAt sel m j := of_decide_eq_true h
  have hl : ∀ d i, i + (d + 1) < sel.length → sel.getD i 0 < sel.getD (i + (d + 1)) 0 := by
    intro d
    induction d with
    | zero => intro i hi; exact (ha (i + 1) hi).2.2 (by omega)
    | succ d ih =>
      intro i hi
      have h1 := ih i (by omega)
      have h2 := (ha (i + (d + 1 + 1)) hi).2.2 (by omega)
      rw [show i + (d + 1 + 1) - 1 = i + (d + 1) by omega] at h2
      omega
  rw [List.pairwise_iff_getElem]
  intro i j hi hj hij
  have := hl (j - i - 1) i (by omega)
  rw [show i + (j - i - 1 + 1) = j by omega] at this
  simpa [List.getD, hi, hj] using this
theorem selK_all {sel : List Int} {m : Nat} (h : selB sel (m : Int) = true) : selK sel m = sel := by
  refine inc_ext _ _ ?_ (sel_inc h) ?_
  · refine List.Pairwise.filter _ ?_
    rw [List.pairwise_map]
    exact List.pairwise_lt_range.imp fun h => by omega
  · intro x
    unfold selK
    rw [List.mem_filter, List.mem_map, decide_eq_true_eq]
    constructor
    · exact fun h => h.2
    · intro hx
      refine ⟨?_, hx⟩
      obtain ⟨j, hj, e⟩ := List.getElem_of_mem hx
      have ha : ∀ j, j < sel.length → selAt sel (m : Int) j := of_decide_eq_true h
      have h1 := ha j hj
      unfold selAt at h1
      have e2 : sel.getD j 0 = x := by simp [List.getD, hj, e]
      rw [e2] at h1
      exact ⟨x.toNat, List.mem_range.2 (by omega), by omega⟩
/-- What the loop of the reference's Show has reached. -/
structure RShP (rows : List RowD) (bl sel : List Int) (m k j : Nat) (ms : List ShM) (hid bld : Int) : Prop where
  j_ : j = (selK sel k).length
  ms_ : ms.map ShM.key = (selK sel k).map (shkAt rows bl m)
  hid_ : hid = sumH (rows.map (·.c)) (hidL sel m) k
  bld_ : bld = sumH bl (hidL sel m) k % 1073741789
theorem hidL_at {sel : List Int} {m k : Nat} (h : k < m) : (hidL sel m).getD k false = !decide ((k : Int) ∈ sel) := by simp [hidL, List.getD, h, hidAt]
theorem RShP.shown {rows : List RowD} {bl sel : List Int} {m k j : Nat} {ms : List ShM} {hid bld : Int} {x : ShM} (h : RShP rows bl sel m k j ms hid bld) (hk : k < m) (hi : (k : Int) ∈ sel) (hx : x.key = shkAt rows bl m (k : Int)) : RShP rows bl sel m (k + 1) (j + 1) (ms ++ [x]) hid bld := by
  refine ⟨?_, ?_, ?_, ?_⟩
  · rw [selK_in hi, List.length_append, ← h.j_]; rfl
  · rw [selK_in hi, List.map_append, List.map_append, h.ms_]; simp [hx]
  · rw [sumH_snoc, hidL_at hk, ← h.hid_]; simp [hi]
  · rw [sumH_snoc, hidL_at hk]; simp [hi, h.bld_]
theorem RShP.hidden {rows : List RowD} {bl sel : List Int} {m k j : Nat} {ms : List ShM} {hid bld hid' bld' : Int} (h : RShP rows bl sel m k j ms hid bld) (hk : k < m) (hi : ¬ (k : Int) ∈ sel) (h1 : hid' = hid + (rows.map (·.c)).getD k 0) (h2 : bld' = (bld + bl.getD k 0) % 1073741789) : RShP rows bl sel m (k + 1) j ms hid' bld' := by
  refine ⟨?_, ?_, ?_, ?_⟩
  · rw [selK_out hi, ← h.j_]
  · rw [selK_out hi, h.ms_]
  · rw [sumH_snoc, hidL_at hk, ← h.hid_, h1]; simp [hi]
  · rw [sumH_snoc, hidL_at hk, h2, h.bld_]; simp only [hi, decide_false, Bool.not_false, if_true]; omega
/-- A disclosure that has no signature yet. -/
def dfC (person : ByteArray) (month : Int) (root : UInt64) (C : Option Addr) (k cc : Nat) (S : Option Addr) (j cs : Nat) (hid bld : Int) : DF := ⟨person, month, root, C, k, cc, S, j, cs, hid, bld, 0, .none, 0, 0, .none, 0, 0⟩
set_option maxHeartbeats 4000000 in
theorem rshow_invalid (person : ByteArray) (month : Int) (root : UInt64) (A B E : Option Addr) (ca cb ce n m ns : Nat) (rows : List RowD) (bl sel : List Int) (seed : ByteArray) (h i : Int) (w : World) (hA : Sl w w.heap.size 3 A n (rowsV rows)) (hB : Sl w w.heap.size 1 B m (intV bl)) (hE : Sl w w.heap.size 1 E ns (intV sel))
    (hn : rows.length = n) (hm : bl.length = m) (hns : sel.length = ns) (hnl : n ≤ maxLen) (hml : m ≤ maxLen) (hnsl : ns ≤ maxLen) (hp : person.size ≤ maxLen) (hs : ∀ x ∈ rows, x.l.size ≤ 70368744177000 ∧ x.r.size ≤ 70368744177000 ∧ I64 x.c) (hb : ∀ b ∈ bl, I64 b)
    (hv : Hid (validB person month rows bl root = false)) :
    Calls Tryz.prog 7 #[.agg #[.string person, .int .i64 month, .slice A n ca, .slice B m cb, .int .u64 root.toNat], .slice E ns ce, .string seed, .int .i64 h, .int .i64 i] w fun e w' => e = .returned (.tuple #[.agg DF.none.cells, .int .i64 1]) ∧ Below w.heap.size w w' := by
  have HA := Lib.hid hA
  have HB := Lib.hid hB
  have HE := Lib.hid hE
  clear hA hB hE
  go_enter Tryz.func7, Tryz.ntmps7
  go_wp2_with fail
  obtain ⟨V, hV⟩ : ∃ V, V = (w.alloc (.cells #[.string person, .int .i64 month, .slice A n ca, .slice B m cb, .int .u64 root.toNat] 27)).alloc (.cells DF.none.cells 36) := ⟨_, rfl⟩
  have hVe : V = (w.alloc (.cells #[.string person, .int .i64 month, .slice A n ca, .slice B m cb, .int .u64 root.toNat] 27)).alloc (.cells #[.string ⟨#[]⟩, .int .i64 0, .int .u64 0, .slice none 0 0, .slice none 0 0, .int .i64 0, .int .i64 0, .int .i64 0, .slice none 0 0, .slice none 0 0] 36) := hV
  rw [← hVe]
  have hsV : V.heap.size = w.heap.size + 2 := by rw [hV]; simp
  have hBV : Below w.heap.size w V := by rw [hV]; exact bal (bal (Below.refl _ _) _) _
  have gS : V.heap[w.heap.size]? = some (.cells #[.string person, .int .i64 month, .slice A n ca, .slice B m cb, .int .u64 root.toNat] 27 (0, 0)) := by rw [hV]; exact (Below.heap_alloc _ _ _ (by simp)).trans (World.alloc_heap_new _ _)
  have gR : V.heap[w.heap.size + 1]? = some (.cells DF.none.cells 36 (0, 0)) := by
    rw [hV]
    have := World.alloc_heap_new (w.alloc (.cells #[.string person, .int .i64 month, .slice A n ca, .slice B m cb, .int .u64 root.toNat] 27)) (.cells DF.none.cells 36)
    rw [World.size_alloc] at this
    exact this
  clear hV hVe
  have c0 : V.cell? ⟨w.heap.size, 0, none⟩ = some (.string person) := by rw [Lib.cell_of_heap gS]; rfl
  have c1 : V.cell? ⟨w.heap.size, 1, none⟩ = some (.int .i64 month) := by rw [Lib.cell_of_heap gS]; rfl
  have c2 : V.cell? ⟨w.heap.size, 2, none⟩ = some (.slice A n ca) := by rw [Lib.cell_of_heap gS]; rfl
  have c3 : V.cell? ⟨w.heap.size, 3, none⟩ = some (.slice B m cb) := by rw [Lib.cell_of_heap gS]; rfl
  have c4 : V.cell? ⟨w.heap.size, 4, none⟩ = some (.int .u64 root.toNat) := by rw [Lib.cell_of_heap gS]; rfl
  go_wp2_with fail
  refine (rvalid35_any person month A B ca cb n m rows bl root false hv V (HA.out.go hBV) (HB.out.go hBV) hn hm hnl hml hp hs hb).mono ?_
  rintro e w1 ⟨rfl, hB1⟩
  have hBw1 := bgo hBV hB1
  have g1R := (hB1.block (w.heap.size + 1) (by omega)).trans gR
  have g1 := (hB1.block w.heap.size (by omega)).trans gS
  have G1 := Lib.hid (And.intro g1 g1R)
  have HW1 := Lib.hid hBw1
  clear hBw1 g1R g1 gS gR hBV hB1 hsV c0 c1 c2 c3 c4
  have hres := G1.out.2
  have r0 : w1.cell? ⟨w.heap.size + 1, 0, none⟩ = some (.string ⟨#[]⟩) := by rw [Lib.cell_of_heap hres]; rfl
  have r1 : w1.cell? ⟨w.heap.size + 1, 1, none⟩ = some (.int .i64 0) := by rw [Lib.cell_of_heap hres]; rfl
  have r2 : w1.cell? ⟨w.heap.size + 1, 2, none⟩ = some (.int .u64 0) := by rw [Lib.cell_of_heap hres]; rfl
  have r3 : w1.cell? ⟨w.heap.size + 1, 3, none⟩ = some (.slice none 0 0) := by rw [Lib.cell_of_heap hres]; rfl
  have r4 : w1.cell? ⟨w.heap.size + 1, 4, none⟩ = some (.slice none 0 0) := by rw [Lib.cell_of_heap hres]; rfl
  have r5 : w1.cell? ⟨w.heap.size + 1, 5, none⟩ = some (.int .i64 0) := by rw [Lib.cell_of_heap hres]; rfl
  have r6 : w1.cell? ⟨w.heap.size + 1, 6, none⟩ = some (.int .i64 0) := by rw [Lib.cell_of_heap hres]; rfl
  have r7 : w1.cell? ⟨w.heap.size + 1, 7, none⟩ = some (.int .i64 0) := by rw [Lib.cell_of_heap hres]; rfl
  have r8 : w1.cell? ⟨w.heap.size + 1, 8, none⟩ = some (.slice none 0 0) := by rw [Lib.cell_of_heap hres]; rfl
  have r9 : w1.cell? ⟨w.heap.size + 1, 9, none⟩ = some (.slice none 0 0) := by rw [Lib.cell_of_heap hres]; rfl
  have f0 : ∀ j, w1.frozen? ⟨w.heap.size + 1, j, none⟩ = false := fun j => Lib.frozen_of_heap hres j
  have B0 := Lib.hid (HW1.out)
  clear hres
  go_wp2_with fail
  have b0 := B0.out
  have b1 := b0.setCell (p := ⟨w.heap.size + 1, 0, none⟩) (by show w.heap.size ≤ w.heap.size + 1; omega) (.string ⟨#[]⟩)
  have b2 := b1.setCell (p := ⟨w.heap.size + 1, 1, none⟩) (by show w.heap.size ≤ w.heap.size + 1; omega) (.int .i64 0)
  have b3 := b2.setCell (p := ⟨w.heap.size + 1, 2, none⟩) (by show w.heap.size ≤ w.heap.size + 1; omega) (.int .u64 0)
  have b4 := b3.setCell (p := ⟨w.heap.size + 1, 3, none⟩) (by show w.heap.size ≤ w.heap.size + 1; omega) (.slice none 0 0)
  have b5 := b4.setCell (p := ⟨w.heap.size + 1, 4, none⟩) (by show w.heap.size ≤ w.heap.size + 1; omega) (.slice none 0 0)
  have b6 := b5.setCell (p := ⟨w.heap.size + 1, 5, none⟩) (by show w.heap.size ≤ w.heap.size + 1; omega) (.int .i64 0)
  have b7 := b6.setCell (p := ⟨w.heap.size + 1, 6, none⟩) (by show w.heap.size ≤ w.heap.size + 1; omega) (.int .i64 0)
  have b8 := b7.setCell (p := ⟨w.heap.size + 1, 7, none⟩) (by show w.heap.size ≤ w.heap.size + 1; omega) (.int .i64 0)
  have b9 := b8.setCell (p := ⟨w.heap.size + 1, 8, none⟩) (by show w.heap.size ≤ w.heap.size + 1; omega) (.slice none 0 0)
  have b10 := b9.setCell (p := ⟨w.heap.size + 1, 9, none⟩) (by show w.heap.size ≤ w.heap.size + 1; omega) (.slice none 0 0)
  refine bodyPost_ret (v := .tuple #[.agg DF.none.cells, .int .i64 1]) (by simp [results, Tryz.results7, go_sem, DF.none, DF.cells, r0, r1, r2, r3, r4, r5, r6, r7, r8, r9]) rfl ⟨rfl, b10⟩
set_option maxHeartbeats 4000000 in
theorem rshow_unsel (person : ByteArray) (month : Int) (root : UInt64) (A B E : Option Addr) (ca cb ce n m ns : Nat) (rows : List RowD) (bl sel : List Int) (seed : ByteArray) (h i : Int) (w : World) (hA : Sl w w.heap.size 3 A n (rowsV rows)) (hB : Sl w w.heap.size 1 B m (intV bl)) (hE : Sl w w.heap.size 1 E ns (intV sel))
    (hn : rows.length = n) (hm : bl.length = m) (hns : sel.length = ns) (hnl : n ≤ maxLen) (hml : m ≤ maxLen) (hnsl : ns ≤ maxLen) (hp : person.size ≤ maxLen) (hs : ∀ x ∈ rows, x.l.size ≤ 70368744177000 ∧ x.r.size ≤ 70368744177000 ∧ I64 x.c) (hb : ∀ b ∈ bl, I64 b)
    (hv : Hid (validB person month rows bl root = true)) (hsel : Hid (selB sel (n : Int) = false)) :
    Calls Tryz.prog 7 #[.agg #[.string person, .int .i64 month, .slice A n ca, .slice B m cb, .int .u64 root.toNat], .slice E ns ce, .string seed, .int .i64 h, .int .i64 i] w fun e w' => e = .returned (.tuple #[.agg DF.none.cells, .int .i64 1]) ∧ Below w.heap.size w w' := by
  have HA := Lib.hid hA
  have HB := Lib.hid hB
  have HE := Lib.hid hE
  clear hA hB hE
  go_enter Tryz.func7, Tryz.ntmps7
  go_wp2_with fail
  obtain ⟨V, hV⟩ : ∃ V, V = (w.alloc (.cells #[.string person, .int .i64 month, .slice A n ca, .slice B m cb, .int .u64 root.toNat] 27)).alloc (.cells DF.none.cells 36) := ⟨_, rfl⟩
  have hVe : V = (w.alloc (.cells #[.string person, .int .i64 month, .slice A n ca, .slice B m cb, .int .u64 root.toNat] 27)).alloc (.cells #[.string ⟨#[]⟩, .int .i64 0, .int .u64 0, .slice none 0 0, .slice none 0 0, .int .i64 0, .int .i64 0, .int .i64 0, .slice none 0 0, .slice none 0 0] 36) := hV
  rw [← hVe]
  have hsV : V.heap.size = w.heap.size + 2 := by rw [hV]; simp
  have hBV : Below w.heap.size w V := by rw [hV]; exact bal (bal (Below.refl _ _) _) _
  have gS : V.heap[w.heap.size]? = some (.cells #[.string person, .int .i64 month, .slice A n ca, .slice B m cb, .int .u64 root.toNat] 27 (0, 0)) := by rw [hV]; exact (Below.heap_alloc _ _ _ (by simp)).trans (World.alloc_heap_new _ _)
  have gR : V.heap[w.heap.size + 1]? = some (.cells DF.none.cells 36 (0, 0)) := by
    rw [hV]
    have := World.alloc_heap_new (w.alloc (.cells #[.string person, .int .i64 month, .slice A n ca, .slice B m cb, .int .u64 root.toNat] 27)) (.cells DF.none.cells 36)
    rw [World.size_alloc] at this
    exact this
  clear hV hVe
  have c0 : V.cell? ⟨w.heap.size, 0, none⟩ = some (.string person) := by rw [Lib.cell_of_heap gS]; rfl
  have c1 : V.cell? ⟨w.heap.size, 1, none⟩ = some (.int .i64 month) := by rw [Lib.cell_of_heap gS]; rfl
  have c2 : V.cell? ⟨w.heap.size, 2, none⟩ = some (.slice A n ca) := by rw [Lib.cell_of_heap gS]; rfl
  have c3 : V.cell? ⟨w.heap.size, 3, none⟩ = some (.slice B m cb) := by rw [Lib.cell_of_heap gS]; rfl
  have c4 : V.cell? ⟨w.heap.size, 4, none⟩ = some (.int .u64 root.toNat) := by rw [Lib.cell_of_heap gS]; rfl
  go_wp2_with fail
  refine (rvalid35_any person month A B ca cb n m rows bl root true hv V (HA.out.go hBV) (HB.out.go hBV) hn hm hnl hml hp hs hb).mono ?_
  rintro e w1 ⟨rfl, hB1⟩
  have hBw1 := bgo hBV hB1
  have g1R := (hB1.block (w.heap.size + 1) (by omega)).trans gR
  have g1 := (hB1.block w.heap.size (by omega)).trans gS
  have G1 := Lib.hid (And.intro g1 g1R)
  have HW1 := Lib.hid hBw1
  clear hBw1 g1R g1 gS gR hBV hB1 hsV c0 c1 c2 c3 c4
  have c0 : w1.cell? ⟨w.heap.size, 0, none⟩ = some (.string person) := by rw [Lib.cell_of_heap G1.out.1]; rfl
  have c1 : w1.cell? ⟨w.heap.size, 1, none⟩ = some (.int .i64 month) := by rw [Lib.cell_of_heap G1.out.1]; rfl
  have c2 : w1.cell? ⟨w.heap.size, 2, none⟩ = some (.slice A n ca) := by rw [Lib.cell_of_heap G1.out.1]; rfl
  have c3 : w1.cell? ⟨w.heap.size, 3, none⟩ = some (.slice B m cb) := by rw [Lib.cell_of_heap G1.out.1]; rfl
  have c4 : w1.cell? ⟨w.heap.size, 4, none⟩ = some (.int .u64 root.toNat) := by rw [Lib.cell_of_heap G1.out.1]; rfl
  go_wp2_with fail
  refine (rsel_any person month root A B E ca cb ce n m ns sel false hns hsel hnsl hnl w1 (HE.out.go HW1.out)).mono ?_
  rintro e w2 ⟨rfl, hB2⟩
  have hBw2 := bgo HW1.out hB2
  have g2R := (hB2.block (w.heap.size + 1) (Array.getElem?_eq_some_iff.1 G1.out.2).1).trans G1.out.2
  have G2 := Lib.hid (And.intro g2R hBw2)
  clear hBw2 g2R hB2 c0 c1 c2 c3 c4
  have hres := G2.out.1
  have r0 : w2.cell? ⟨w.heap.size + 1, 0, none⟩ = some (.string ⟨#[]⟩) := by rw [Lib.cell_of_heap hres]; rfl
  have r1 : w2.cell? ⟨w.heap.size + 1, 1, none⟩ = some (.int .i64 0) := by rw [Lib.cell_of_heap hres]; rfl
  have r2 : w2.cell? ⟨w.heap.size + 1, 2, none⟩ = some (.int .u64 0) := by rw [Lib.cell_of_heap hres]; rfl
  have r3 : w2.cell? ⟨w.heap.size + 1, 3, none⟩ = some (.slice none 0 0) := by rw [Lib.cell_of_heap hres]; rfl
  have r4 : w2.cell? ⟨w.heap.size + 1, 4, none⟩ = some (.slice none 0 0) := by rw [Lib.cell_of_heap hres]; rfl
  have r5 : w2.cell? ⟨w.heap.size + 1, 5, none⟩ = some (.int .i64 0) := by rw [Lib.cell_of_heap hres]; rfl
  have r6 : w2.cell? ⟨w.heap.size + 1, 6, none⟩ = some (.int .i64 0) := by rw [Lib.cell_of_heap hres]; rfl
  have r7 : w2.cell? ⟨w.heap.size + 1, 7, none⟩ = some (.int .i64 0) := by rw [Lib.cell_of_heap hres]; rfl
  have r8 : w2.cell? ⟨w.heap.size + 1, 8, none⟩ = some (.slice none 0 0) := by rw [Lib.cell_of_heap hres]; rfl
  have r9 : w2.cell? ⟨w.heap.size + 1, 9, none⟩ = some (.slice none 0 0) := by rw [Lib.cell_of_heap hres]; rfl
  have f0 : ∀ j, w2.frozen? ⟨w.heap.size + 1, j, none⟩ = false := fun j => Lib.frozen_of_heap hres j
  have B0 := Lib.hid (G2.out.2)
  clear hres
  go_wp2_with fail
  have b0 := B0.out
  have b1 := b0.setCell (p := ⟨w.heap.size + 1, 0, none⟩) (by show w.heap.size ≤ w.heap.size + 1; omega) (.string ⟨#[]⟩)
  have b2 := b1.setCell (p := ⟨w.heap.size + 1, 1, none⟩) (by show w.heap.size ≤ w.heap.size + 1; omega) (.int .i64 0)
  have b3 := b2.setCell (p := ⟨w.heap.size + 1, 2, none⟩) (by show w.heap.size ≤ w.heap.size + 1; omega) (.int .u64 0)
  have b4 := b3.setCell (p := ⟨w.heap.size + 1, 3, none⟩) (by show w.heap.size ≤ w.heap.size + 1; omega) (.slice none 0 0)
  have b5 := b4.setCell (p := ⟨w.heap.size + 1, 4, none⟩) (by show w.heap.size ≤ w.heap.size + 1; omega) (.slice none 0 0)
  have b6 := b5.setCell (p := ⟨w.heap.size + 1, 5, none⟩) (by show w.heap.size ≤ w.heap.size + 1; omega) (.int .i64 0)
  have b7 := b6.setCell (p := ⟨w.heap.size + 1, 6, none⟩) (by show w.heap.size ≤ w.heap.size + 1; omega) (.int .i64 0)
  have b8 := b7.setCell (p := ⟨w.heap.size + 1, 7, none⟩) (by show w.heap.size ≤ w.heap.size + 1; omega) (.int .i64 0)
  have b9 := b8.setCell (p := ⟨w.heap.size + 1, 8, none⟩) (by show w.heap.size ≤ w.heap.size + 1; omega) (.slice none 0 0)
  have b10 := b9.setCell (p := ⟨w.heap.size + 1, 9, none⟩) (by show w.heap.size ≤ w.heap.size + 1; omega) (.slice none 0 0)
  refine bodyPost_ret (v := .tuple #[.agg DF.none.cells, .int .i64 1]) (by simp [results, Tryz.results7, go_sem, DF.none, DF.cells, r0, r1, r2, r3, r4, r5, r6, r7, r8, r9]) rfl ⟨rfl, b10⟩
set_option maxHeartbeats 16000000 in
theorem rshow_main (person : ByteArray) (month : Int) (root : UInt64) (A B E : Option Addr) (ca cb ce n m ns : Nat) (rows : List RowD) (bl sel : List Int) (seed : ByteArray) (h i : Int) (er : Int) (w : World) (hT : DTabs w) (hA : Sl w w.heap.size 3 A n (rowsV rows)) (hB : Sl w w.heap.size 1 B m (intV bl)) (hE : Sl w w.heap.size 1 E ns (intV sel))
    (hn : rows.length = n) (hm : bl.length = m) (hns : sel.length = ns) (hnl : n ≤ maxLen) (hml : m ≤ maxLen) (hnsl : ns ≤ maxLen) (hp : person.size ≤ maxLen) (hs : ∀ x ∈ rows, x.l.size ≤ 70368744177000 ∧ x.r.size ≤ 70368744177000 ∧ I64 x.c) (hb : ∀ b ∈ bl, I64 b)
    (hv : Hid (validB person month rows bl root = true)) (hsel : Hid (selB sel (n : Int) = true)) (her : Hid (showE person month root rows bl sel seed h i = er)) (hsd : seed.size ≤ maxLen) :
    Calls Tryz.prog 7 #[.agg #[.string person, .int .i64 month, .slice A n ca, .slice B m cb, .int .u64 root.toNat], .slice E ns ce, .string seed, .int .i64 h, .int .i64 i] w (ShowP w person month root rows bl sel seed h i er) := by
  obtain ⟨⟨hpz, hm0, hm1⟩, ⟨hn1, hn2, hnm⟩, hk0, _⟩ := validB_out hv.out
  rw [hn, hm] at hnm
  subst hnm
  rw [hn] at hn1 hn2 hk0
  have hmI : I64 month := ⟨by omega, by omega⟩
  have HA := Lib.hid hA
  have HB := Lib.hid hB
  have HE := Lib.hid hE
  have Hl := Lib.hid (And.intro hn (And.intro hm hns))
  have Hs := Lib.hid hs
  have Hb := Lib.hid hb
  have Hk := Lib.hid hk0
  have HT := Lib.hid hT
  have HmI := Lib.hid hmI
  have HL := Lib.hid (And.intro hnl (And.intro hml hnsl))
  have hbR : ∀ b ∈ bl, 0 ≤ b ∧ b < 1073741789 := fun b hb' => by
    obtain ⟨j, hj, e⟩ := List.getElem_of_mem hb'
    have h1 := (hk0 j (by omega)).2
    rw [show bl.getD j 0 = b by simp [List.getD, hj, e]] at h1
    exact h1
  have HbR := Lib.hid hbR
  have hcR : ∀ c ∈ rows.map (·.c), -500000000 ≤ c ∧ c ≤ 500000000 := fun c hc => by
    obtain ⟨x, hx, rfl⟩ := List.mem_map.1 hc
    obtain ⟨j, hj, e⟩ := List.getElem_of_mem hx
    have h1 := (hk0 j (by omega)).1
    rw [show rows.getD j default = x by simp [List.getD, hj, e]] at h1
    exact h1
  have HcR := Lib.hid hcR
  have HselK := Lib.hid (selK_all hsel.out)
  clear hA hB hE hs hb hT hmI hk0 hm0 hm1 hbR hcR hnl hml
  go_enter Tryz.func7, Tryz.ntmps7
  go_wp2_with fail
  obtain ⟨V, hV⟩ : ∃ V, V = (w.alloc (.cells #[.string person, .int .i64 month, .slice A m ca, .slice B m cb, .int .u64 root.toNat] 27)).alloc (.cells DF.none.cells 36) := ⟨_, rfl⟩
  have hVe : V = (w.alloc (.cells #[.string person, .int .i64 month, .slice A m ca, .slice B m cb, .int .u64 root.toNat] 27)).alloc (.cells #[.string ⟨#[]⟩, .int .i64 0, .int .u64 0, .slice none 0 0, .slice none 0 0, .int .i64 0, .int .i64 0, .int .i64 0, .slice none 0 0, .slice none 0 0] 36) := hV
  rw [← hVe]
  have hsV : V.heap.size = w.heap.size + 2 := by rw [hV]; simp
  have hBV : Below w.heap.size w V := by rw [hV]; exact bal (bal (Below.refl _ _) _) _
  have gS : V.heap[w.heap.size]? = some (.cells #[.string person, .int .i64 month, .slice A m ca, .slice B m cb, .int .u64 root.toNat] 27 (0, 0)) := by rw [hV]; exact (Below.heap_alloc _ _ _ (by simp)).trans (World.alloc_heap_new _ _)
  have gR : V.heap[w.heap.size + 1]? = some (.cells DF.none.cells 36 (0, 0)) := by
    rw [hV]
    have := World.alloc_heap_new (w.alloc (.cells #[.string person, .int .i64 month, .slice A m ca, .slice B m cb, .int .u64 root.toNat] 27)) (.cells DF.none.cells 36)
    rw [World.size_alloc] at this
    exact this
  clear hV hVe
  have c0 : V.cell? ⟨w.heap.size, 0, none⟩ = some (.string person) := by rw [Lib.cell_of_heap gS]; rfl
  have c1 : V.cell? ⟨w.heap.size, 1, none⟩ = some (.int .i64 month) := by rw [Lib.cell_of_heap gS]; rfl
  have c2 : V.cell? ⟨w.heap.size, 2, none⟩ = some (.slice A m ca) := by rw [Lib.cell_of_heap gS]; rfl
  have c3 : V.cell? ⟨w.heap.size, 3, none⟩ = some (.slice B m cb) := by rw [Lib.cell_of_heap gS]; rfl
  have c4 : V.cell? ⟨w.heap.size, 4, none⟩ = some (.int .u64 root.toNat) := by rw [Lib.cell_of_heap gS]; rfl
  have G0 := Lib.hid (And.intro hBV (And.intro gS gR))
  go_wp2_with fail
  refine (rvalid35_any person month A B ca cb m m rows bl root true hv V (HA.out.go hBV) (HB.out.go hBV) Hl.out.1 Hl.out.2.1 HL.out.1 HL.out.2.1 hp Hs.out Hb.out).mono ?_
  rintro e w1 ⟨rfl, hB1⟩
  have hBw1 := bgo hBV hB1
  have hs1 := hB1.size
  have g1 := (hB1.block w.heap.size (by omega)).trans gS
  have g1R := (hB1.block (w.heap.size + 1) (by omega)).trans gR
  have G1 := Lib.hid (And.intro g1 (And.intro g1R hBw1))
  have hs1w : w.heap.size + 1 < w1.heap.size := by omega
  clear gS gR hBV hB1 g1 g1R G0 hs1 hsV hBw1 c0 c1 c2 c3 c4
  have c0 : w1.cell? ⟨w.heap.size, 0, none⟩ = some (.string person) := by rw [Lib.cell_of_heap G1.out.1]; rfl
  have c1 : w1.cell? ⟨w.heap.size, 1, none⟩ = some (.int .i64 month) := by rw [Lib.cell_of_heap G1.out.1]; rfl
  have c2 : w1.cell? ⟨w.heap.size, 2, none⟩ = some (.slice A m ca) := by rw [Lib.cell_of_heap G1.out.1]; rfl
  have c3 : w1.cell? ⟨w.heap.size, 3, none⟩ = some (.slice B m cb) := by rw [Lib.cell_of_heap G1.out.1]; rfl
  have c4 : w1.cell? ⟨w.heap.size, 4, none⟩ = some (.int .u64 root.toNat) := by rw [Lib.cell_of_heap G1.out.1]; rfl
  go_wp2_with fail
  refine (rsel_any person month root A B E ca cb ce m m ns sel true Hl.out.2.2 hsel hnsl HL.out.1 w1 (HE.out.go G1.out.2.2)).mono ?_
  rintro e w2 ⟨rfl, hB2⟩
  have hBw2 := bgo G1.out.2.2 hB2
  have hs2 := hB2.size
  have g2 := (hB2.block w.heap.size (by omega)).trans G1.out.1
  have g2R := (hB2.block (w.heap.size + 1) (by omega)).trans G1.out.2.1
  have hs2w : w.heap.size + 1 < w2.heap.size := by omega
  have G2 := Lib.hid (And.intro g2 (And.intro g2R hBw2))
  clear hB2 g2 g2R hs2 hBw2 c0 c1 c2 c3 c4 G1 hs1w
  clear w1 V
  have c0 : w2.cell? ⟨w.heap.size, 0, none⟩ = some (.string person) := by rw [Lib.cell_of_heap G2.out.1]; rfl
  have c1 : w2.cell? ⟨w.heap.size, 1, none⟩ = some (.int .i64 month) := by rw [Lib.cell_of_heap G2.out.1]; rfl
  have c4 : w2.cell? ⟨w.heap.size, 4, none⟩ = some (.int .u64 root.toNat) := by rw [Lib.cell_of_heap G2.out.1]; rfl
  go_upto_region 4 with fail
  have hJ0 : ShJ w w2.heap.size #[.string person, .int .i64 month, .slice A m ca, .slice B m cb, .int .u64 root.toNat] (dfA person month root none 0 0) [] [] [] [] (.slice none 0 0) 0 [] (w2.alloc (.cells #[.string person, .int .i64 month, .int .u64 root.toNat, .slice none 0 0, .slice none 0 0, .int .i64 0, .int .i64 0, .int .i64 0, .slice none 0 0, .slice none 0 0] 36)) := ShJ.start hs2w G2.out.1 G2.out.2.1 G2.out.2.2
  obtain ⟨U, hU⟩ : ∃ U, U = w2.alloc (.cells #[.string person, .int .i64 month, .int .u64 root.toNat, .slice none 0 0, .slice none 0 0, .int .i64 0, .int .i64 0, .int .i64 0, .slice none 0 0, .slice none 0 0] 36) := ⟨_, rfl⟩
  rw [← hU] at hJ0 ⊢
  obtain ⟨D, hD⟩ : ∃ D, D = w2.heap.size := ⟨_, rfl⟩
  rw [← hD] at hJ0 ⊢
  have HJ0 := Lib.hid hJ0
  have c2U : U.cell? ⟨w.heap.size, 2, none⟩ = some (.slice A m ca) := by rw [Lib.cell_of_heap hJ0.sh]; rfl
  have c3U : U.cell? ⟨w.heap.size, 3, none⟩ = some (.slice B m cb) := by rw [Lib.cell_of_heap hJ0.sh]; rfl
  obtain ⟨i1, hi1, hy0, hy1, hy2⟩ := info_parts info_int36
  obtain ⟨i2, hi2, hx0, hx1, hx2⟩ := info_parts info_shown
  clear hJ0 c0 c1 c4 G2 hs2w hU hD
  clear w2
  go_wp2_with fail
  refine (rleaves_any A B ca cb m m rows bl U (HA.out.go HJ0.out.be) (HB.out.go HJ0.out.be) Hl.out.1 Hl.out.2.1 (Nat.le_refl _) (by omega) HL.out.1 Hs.out HbR.out).mono ?_
  rintro e w3 ⟨Lv, lcap, rfl, hown, hB3⟩
  have hJ3 := HJ0.out.go hB3
  have hJ3' : ShJ w D #[.string person, .int .i64 month, .slice A m ca, .slice B m cb, .int .u64 root.toNat] (dfC person month root none 0 0 none 0 0 0 0) (comL rows bl 0) [] [] [] (.slice Lv m lcap) m (leafK rows bl m) w3 := ⟨hJ3.hD, hJ3.sh, hJ3.rs, hJ3.dd, hJ3.rw, own_mono hown HJ0.out.be.size, hJ3.be⟩
  have HJ3 := Lib.hid hJ3'
  clear hJ3 hJ3' hown hB3 c2U c3U HJ0
  clear U
  go_wp2_with fail
  go_loopw [14] (fun q wr => ∃ k : Nat, k ≤ m ∧ q = .int .i64 (k : Int) ∧ ∃ C cc S j cs ms hid bld, ShJ w D #[.string person, .int .i64 month, .slice A m ca, .slice B m cb, .int .u64 root.toNat] (dfC person month root C k cc S j cs hid bld) (comL rows bl k) ms [] [] (.slice Lv m lcap) m (leafK rows bl m) wr ∧ RShP rows bl sel m k j ms hid bld) (fun q _ => m - (intOf q).toNat)
  case atStart => exact ⟨0, Nat.zero_le _, rfl, none, 0, none, 0, 0, [], 0, 0, HJ3.out, ⟨rfl, rfl, rfl, rfl⟩⟩
  case round =>
    clear HJ3
    obtain ⟨k, hk, rfl, C, cc, S, j, cs, ms, hid, bld, hJ, hP⟩ := hrel
    have HJ := Lib.hid hJ
    have HP := Lib.hid hP
    have hBw := hJ.be
    clear hJ hP
    by_cases hlt : k < m
    · have hlt' : (k : Int) < (m : Int) := by omega
      have hkl : k < rows.length := by rw [Hl.out.1]; exact hlt
      have hkb : k < bl.length := by rw [Hl.out.2.1]; exact hlt
      obtain ⟨b1, o1, rfl, hb1, hc1⟩ := HA.out.2 (by omega)
      obtain ⟨b2, o2, rfl, hb2, hc2⟩ := HB.out.2 (by omega)
      obtain ⟨x, hx⟩ : ∃ x, rows[k] = x := ⟨_, rfl⟩
      have hxg : rows.getD k default = x := by rw [List.getD_eq_getElem?_getD, List.getElem?_eq_getElem hkl]; exact hx
      have hget := flat_get rowV 3 (fun _ => rfl) rows k hkl
      rw [hx] at hget
      have hkk := Hk.out k hlt
      rw [hxg] at hkk
      obtain ⟨bv, hbv⟩ : ∃ b, bl.getD k 0 = b := ⟨_, rfl⟩
      rw [hbv] at hkk
      have hxm : (rows.map (·.c)).getD k 0 = x.c := by simp [List.getD, hkl, hx]
      obtain ⟨xl, xc, xr⟩ := x
      dsimp only at hkk hxm
      obtain ⟨⟨hr1, hr2⟩, hr3, hr4⟩ := hkk
      have hR0 : ∀ W, Below w.heap.size w W → W.cell? ⟨b1, o1 + k * 3, none⟩ = some (.string xl) := fun W hW => (hW.cell (p := ⟨b1, o1 + k * 3, none⟩) hb1).trans (hc1 _ _ (hget 0 (by decide)))
      have hR1 : ∀ W, Below w.heap.size w W → W.cell? ⟨b1, o1 + k * 3 + 1, none⟩ = some (.int .i64 xc) := fun W hW => (hW.cell (p := ⟨b1, o1 + k * 3 + 1, none⟩) hb1).trans (hc1 _ _ (hget 1 (by decide)))
      have hR2 : ∀ W, Below w.heap.size w W → W.cell? ⟨b1, o1 + k * 3 + 2, none⟩ = some (.string xr) := fun W hW => (hW.cell (p := ⟨b1, o1 + k * 3 + 2, none⟩) hb1).trans (hc1 _ _ (hget 2 (by decide)))
      have hRb : ∀ W, Below w.heap.size w W → W.cell? ⟨b2, o2 + k, none⟩ = some (.int .i64 bv) := fun W hW => (hW.cell (p := ⟨b2, o2 + k, none⟩) hb2).trans (hc2 k _ (by rw [intV_get bl k hkb, hbv]))
      have hS2 : ∀ W : World, W.heap[w.heap.size]? = some (.cells #[.string person, .int .i64 month, .slice (some ⟨b1, o1, none⟩) m ca, .slice (some ⟨b2, o2, none⟩) m cb, .int .u64 root.toNat] 27 (0, 0)) → W.cell? ⟨w.heap.size, 2, none⟩ = some (.slice (some ⟨b1, o1, none⟩) m ca) := fun W hW => by rw [Lib.cell_of_heap hW]; rfl
      have hS3 : ∀ W : World, W.heap[w.heap.size]? = some (.cells #[.string person, .int .i64 month, .slice (some ⟨b1, o1, none⟩) m ca, .slice (some ⟨b2, o2, none⟩) m cb, .int .u64 root.toNat] 27 (0, 0)) → W.cell? ⟨w.heap.size, 3, none⟩ = some (.slice (some ⟨b2, o2, none⟩) m cb) := fun W hW => by rw [Lib.cell_of_heap hW]; rfl
      have Hr := Lib.hid (And.intro hR0 (And.intro hR1 (And.intro hR2 hRb)))
      have HS := Lib.hid (And.intro hS2 hS3)
      have hkI : I64 (k : Int) := ⟨by omega, by omega⟩
      obtain ⟨vi, hvi⟩ : ∃ v, xc % 1073741789 = v := ⟨_, rfl⟩
      have hvi1 : 0 ≤ vi ∧ vi < 1073741789 := by omega
      obtain ⟨cx, hcx⟩ : ∃ c, commitI vi bv = c := ⟨_, rfl⟩
      have Hcl : Hid (comL rows bl (k + 1) = comL rows bl k ++ [cx]) := Lib.hid (by rw [comL_snoc, hxg, hbv]; dsimp only; rw [hvi]; unfold comI; rw [if_pos ⟨hr3, hr4⟩, hcx])
      have Hxm := Lib.hid hxm
      have Hbv := Lib.hid hbv
      have Hxg := Lib.hid hxg
      have Hcx := Lib.hid hcx
      have Hvi := Lib.hid hvi
      have hBd := hBw.drew
      have HH0 := Lib.hid (show Below w.heap.size w wr.drew ∧ wr.drew.heap[w.heap.size]? = some (.cells #[.string person, .int .i64 month, .slice (some ⟨b1, o1, none⟩) m ca, .slice (some ⟨b2, o2, none⟩) m cb, .int .u64 root.toNat] 27 (0, 0)) from ⟨hBd, HJ.out.sh⟩)
      have k2 : wr.cell? ⟨w.heap.size, 2, none⟩ = some (.slice (some ⟨b1, o1, none⟩) m ca) := hS2 wr HJ.out.sh
      clear hx hxg hget hc1 hc2 hbv hkl hkb hcx hvi hxm hR0 hR1 hR2 hRb hS2 hS3 hBd
      go_upto_region 8 with fail
      clear k2
      refine wp_region_noPanic ?_
      refine wp_region_held_drew (S := fun W => Below w.heap.size w W ∧ W.heap[w.heap.size]? = some (.cells #[.string person, .int .i64 month, .slice (some ⟨b1, o1, none⟩) m ca, .slice (some ⟨b2, o2, none⟩) m cb, .int .u64 root.toNat] 27 (0, 0))) (by kernel_rfl) HH0.out (fun hHeld => ?_)
      refine wpAnyH_take (i := 0) (v := ?_) rfl (by kernel_rfl) (by kernel_rfl) (by kernel_rfl) (fun _ _ _ h => h) (Or.inl ⟨by kernel_rfl, ?_⟩) (by assumption) ?_
      rotate_left
      · intro w hSw
        (try dsimp only at hSw)
        go_simp
        first | done | with_reducible rfl
      simp only [List.getElem_toArray, List.getElem_cons_zero, List.getElem_cons_succ, Act.put, List.setIfInBounds_toArray, List.set_cons_zero, List.set_cons_succ]
      refine wpAnyH_take (i := 1) (v := ?_) rfl (by kernel_rfl) (by kernel_rfl) (by kernel_rfl) (fun _ _ _ h => h) (Or.inl ⟨by kernel_rfl, ?_⟩) (by assumption) ?_
      rotate_left
      · intro w hSw
        (try dsimp only at hSw)
        have z0 := HS.out.1 w hSw.2
        go_simp
        first | done | with_reducible rfl
      simp only [List.getElem_toArray, List.getElem_cons_zero, List.getElem_cons_succ, Act.put, List.setIfInBounds_toArray, List.set_cons_zero, List.set_cons_succ]
      refine wpAnyH_take (i := 2) (v := ?_) rfl (by kernel_rfl) (by kernel_rfl) (by kernel_rfl) (fun _ _ _ h => h) (Or.inl ⟨by kernel_rfl, ?_⟩) (by assumption) ?_
      rotate_left
      · intro w hSw
        (try dsimp only at hSw)
        go_simp
        first | done | with_reducible rfl
      simp only [List.getElem_toArray, List.getElem_cons_zero, List.getElem_cons_succ, Act.put, List.setIfInBounds_toArray, List.set_cons_zero, List.set_cons_succ]
      refine wpAnyH_take (i := 3) (v := ?_) rfl (by kernel_rfl) (by kernel_rfl) (by kernel_rfl) (fun _ _ _ h => h) (Or.inl ⟨by kernel_rfl, ?_⟩) (by assumption) ?_
      rotate_left
      · intro w hSw
        (try dsimp only at hSw)
        go_simp
        first | done | with_reducible rfl
      simp only [List.getElem_toArray, List.getElem_cons_zero, List.getElem_cons_succ, Act.put, List.setIfInBounds_toArray, List.set_cons_zero, List.set_cons_succ]
      refine wpAnyH_take (i := 4) (v := ?_) rfl (by kernel_rfl) (by kernel_rfl) (by kernel_rfl) (fun _ _ _ h => h) (Or.inl ⟨by kernel_rfl, ?_⟩) (by assumption) ?_
      rotate_left
      · intro w hSw
        (try dsimp only at hSw)
        go_simp
        first | done | with_reducible rfl
      simp only [List.getElem_toArray, List.getElem_cons_zero, List.getElem_cons_succ, Act.put, List.setIfInBounds_toArray, List.set_cons_zero, List.set_cons_succ]
      refine wpAnyH_take (i := 5) (v := ?_) rfl (by kernel_rfl) (by kernel_rfl) (by kernel_rfl) (fun _ _ _ h => h) (Or.inl ⟨by kernel_rfl, ?_⟩) (by assumption) ?_
      rotate_left
      · intro w hSw
        (try dsimp only at hSw)
        have z0 := Hr.out.2.1 w hSw.1
        go_simp
        first | done | with_reducible rfl
      simp only [List.getElem_toArray, List.getElem_cons_zero, List.getElem_cons_succ, Act.put, List.setIfInBounds_toArray, List.set_cons_zero, List.set_cons_succ]
      refine wpAnyH_take (i := 7) (v := ?_) rfl (by kernel_rfl) (by kernel_rfl) (by kernel_rfl) (fun _ _ _ h => h) (Or.inl ⟨by kernel_rfl, ?_⟩) (by assumption) ?_
      rotate_left
      · intro w hSw
        (try dsimp only at hSw)
        go_simp
        first | done | with_reducible rfl
      simp only [List.getElem_toArray, List.getElem_cons_zero, List.getElem_cons_succ, Act.put, List.setIfInBounds_toArray, List.set_cons_zero, List.set_cons_succ]
      refine wpAnyH_take (i := 8) (v := ?_) rfl (by kernel_rfl) (by kernel_rfl) (by kernel_rfl) (fun _ _ _ h => h) (Or.inl ⟨by kernel_rfl, ?_⟩) (by assumption) ?_
      rotate_left
      · intro w hSw
        (try dsimp only at hSw)
        have z0 := HS.out.2 w hSw.2
        go_simp
        first | done | with_reducible rfl
      simp only [List.getElem_toArray, List.getElem_cons_zero, List.getElem_cons_succ, Act.put, List.setIfInBounds_toArray, List.set_cons_zero, List.set_cons_succ]
      refine wpAnyH_take (i := 9) (v := ?_) rfl (by kernel_rfl) (by kernel_rfl) (by kernel_rfl) (fun _ _ _ h => h) (Or.inl ⟨by kernel_rfl, ?_⟩) (by assumption) ?_
      rotate_left
      · intro w hSw
        (try dsimp only at hSw)
        go_simp
        first | done | with_reducible rfl
      simp only [List.getElem_toArray, List.getElem_cons_zero, List.getElem_cons_succ, Act.put, List.setIfInBounds_toArray, List.set_cons_zero, List.set_cons_succ]
      refine wpAnyH_take (i := 10) (v := ?_) rfl (by kernel_rfl) (by kernel_rfl) (by kernel_rfl) (fun _ _ _ h => h) (Or.inl ⟨by kernel_rfl, ?_⟩) (by assumption) ?_
      rotate_left
      · intro w hSw
        (try dsimp only at hSw)
        go_simp
        first | done | with_reducible rfl
      simp only [List.getElem_toArray, List.getElem_cons_zero, List.getElem_cons_succ, Act.put, List.setIfInBounds_toArray, List.set_cons_zero, List.set_cons_succ]
      refine wpAnyH_take (i := 11) (v := ?_) rfl (by kernel_rfl) (by kernel_rfl) (by kernel_rfl) (fun _ _ _ h => h) (Or.inl ⟨by kernel_rfl, ?_⟩) (by assumption) ?_
      rotate_left
      · intro w hSw
        (try dsimp only at hSw)
        have z0 := Hr.out.2.2.2 w hSw.1
        go_simp
        first | done | with_reducible rfl
      simp only [List.getElem_toArray, List.getElem_cons_zero, List.getElem_cons_succ, Act.put, List.setIfInBounds_toArray, List.set_cons_zero, List.set_cons_succ]
      refine wpAnyH_ready (rs := [6]) (by kernel_rfl) (by simp) ?_
      refine AllReadyH.cons rfl (fun K hK => ?_) AllReadyH.nil
      simp only [List.getElem_toArray, List.getElem_cons_zero, List.getElem_cons_succ]
      go_simp
      (with_reducible refine (pvalue_any xc vi Hvi wr.drew).mono ?_)
      rintro e w1 ⟨rfl, hB1⟩
      dsimp only
      have hB1u : Below wr.heap.size wr w1 := below_undrew hB1
      have hJ1 := HJ.out.go hB1u
      have H1 := Lib.hid (And.intro (bgo hBw hB1u) hJ1.sh)
      refine hK.out _ _ H1.out (fun hHeld => ?_)
      clear hK K
      try simp only [List.getElem_toArray, List.getElem_cons_zero, List.getElem_cons_succ, Act.put, List.setIfInBounds_toArray, List.set_cons_zero, List.set_cons_succ]
      refine wpAnyH_ready (rs := [12]) (by kernel_rfl) (by simp) ?_
      refine AllReadyH.cons rfl (fun K hK => ?_) AllReadyH.nil
      simp only [List.getElem_toArray, List.getElem_cons_zero, List.getElem_cons_succ]
      go_simp
      (with_reducible refine (rcommit_v vi bv cx Hcx w1 hvi1.1 hvi1.2 hr3 hr4).mono ?_)
      rintro e w' ⟨rfl, hw'⟩
      obtain rfl := hw'
      dsimp only
      refine hK.out _ _ H1.out (fun hHeld => ?_)
      clear hK K
      try simp only [List.getElem_toArray, List.getElem_cons_zero, List.getElem_cons_succ, Act.put, List.setIfInBounds_toArray, List.set_cons_zero, List.set_cons_succ]
      refine wpAnyH_take (i := 13) (v := ?_) rfl (by kernel_rfl) (by kernel_rfl) (by kernel_rfl) (fun _ _ _ h => h) (Or.inl ⟨by kernel_rfl, ?_⟩) (by assumption) ?_
      rotate_left
      · intro w hSw
        (try dsimp only at hSw)
        go_simp
        first | done | with_reducible rfl
      simp only [List.getElem_toArray, List.getElem_cons_zero, List.getElem_cons_succ, Act.put, List.setIfInBounds_toArray, List.set_cons_zero, List.set_cons_succ]
      refine wpAnyH_take (i := 14) (v := ?_) rfl (by kernel_rfl) (by kernel_rfl) (by kernel_rfl) (fun _ _ _ h => h) (Or.inl ⟨by kernel_rfl, ?_⟩) (by assumption) ?_
      rotate_left
      · intro w hSw
        (try dsimp only at hSw)
        go_simp
        first | done | with_reducible rfl
      simp only [List.getElem_toArray, List.getElem_cons_zero, List.getElem_cons_succ, Act.put, List.setIfInBounds_toArray, List.set_cons_zero, List.set_cons_succ]
      refine wpAnyH_take (i := 15) (v := ?_) rfl (by kernel_rfl) (by kernel_rfl) (by kernel_rfl) (fun _ _ _ h => h) (Or.inl ⟨by kernel_rfl, ?_⟩) (by assumption) ?_
      rotate_left
      · intro w hSw
        (try dsimp only at hSw)
        go_simp
        first | done | with_reducible rfl
      simp only [List.getElem_toArray, List.getElem_cons_zero, List.getElem_cons_succ, Act.put, List.setIfInBounds_toArray, List.set_cons_zero, List.set_cons_succ]
      refine wpAnyH_take (i := 16) (v := ?_) rfl (by kernel_rfl) (by kernel_rfl) (by kernel_rfl) (fun _ _ _ h => h) (Or.inl ⟨by kernel_rfl, ?_⟩) (by assumption) ?_
      rotate_left
      · intro w hSw
        (try dsimp only at hSw)
        go_simp
        first | done | with_reducible rfl
      simp only [List.getElem_toArray, List.getElem_cons_zero, List.getElem_cons_succ, Act.put, List.setIfInBounds_toArray, List.set_cons_zero, List.set_cons_succ]
      refine wpAnyH_take (i := 17) (v := ?_) rfl (by kernel_rfl) (by kernel_rfl) (by kernel_rfl) (fun _ _ _ h => h) (Or.inl ⟨by kernel_rfl, ?_⟩) (by assumption) ?_
      rotate_left
      · intro w hSw
        (try dsimp only at hSw)
        go_simp
        first | done | with_reducible rfl
      simp only [List.getElem_toArray, List.getElem_cons_zero, List.getElem_cons_succ, Act.put, List.setIfInBounds_toArray, List.set_cons_zero, List.set_cons_succ]
      refine wpAnyH_done (by kernel_rfl) ?_ _
      dsimp only [NoPanic]
      clear hHeld
      clear hHeld
      have HJ1 := Lib.hid hJ1
      have hOC := hJ1.rw.c
      have hBe1 := hJ1.be
      have kc : w1.cell? ⟨D, 3, none⟩ = some (.slice C k cc) := by rw [Lib.cell_of_heap hJ1.dd]; rfl
      clear hJ1 HJ hB1 hB1u HH0 H1
      go_wp2_with (at_builtin; refine app_one rfl _ _ 23 rfl 3 i1 (.int .i64 0) 1 8 Tryz.underlying23 hi1 hy0 hy1 hy2 rfl (by decide) _ k _ rfl hOC hBe1 [.int .i64 cx] _ _ rfl rfl (by simp [Value.oneCell']) (by unfold maxLen; omega) (by omega) ?_)
      intro v3 w3 hown3 hB3 hk3
      obtain ⟨C3, c3, rfl, hcc3, hSl3⟩ := own_slc hown3
      clear hcc3 hSl3
      have h3D := (hk3.2 D (Array.getElem?_eq_some_iff.1 HJ1.out.dd).1 (own_ne hOC HJ1.out.dd (by decide))).trans HJ1.out.dd
      have hJ2' := HJ1.out.com hk3 hB3 hown3
      rw [← Hcl.out] at hJ2'
      have hJ2 : ShJ w D #[.string person, .int .i64 month, .slice (some ⟨b1, o1, none⟩) m ca, .slice (some ⟨b2, o2, none⟩) m cb, .int .u64 root.toNat] (dfC person month root C3 (k + 1) c3 S j cs hid bld) (comL rows bl (k + 1)) ms [] [] (.slice Lv m lcap) m (leafK rows bl m) (w3.setCell ⟨D, 3, none⟩ (.slice C3 (k + 1) c3)) := hJ2'
      have kc3 : w3.cell? ⟨D, 3, none⟩ = some (.slice C k cc) := by rw [Lib.cell_of_heap h3D]; rfl
      have kf3 : w3.frozen? ⟨D, 3, none⟩ = false := Lib.frozen_of_heap h3D 3
      obtain ⟨w4, hw4⟩ : ∃ w4, w4 = w3.setCell ⟨D, 3, none⟩ (.slice C3 (k + 1) c3) := ⟨_, rfl⟩
      have HJ2 := Lib.hid hJ2
      clear h3D hJ2 hJ2' hown3 hk3 HJ1 hBe1 kc hOC
      go_upto_region 10 with fail
      rw [← hw4] at HJ2 ⊢
      clear kc3 kf3 hw4 hB3
      clear w3
      obtain ⟨r, hr⟩ : ∃ r, decide ((k : Int) ∈ sel) = r := ⟨_, rfl⟩
      have Hr9 := Lib.hid hr
      clear hr
      go_wp2_with fail
      refine (rin_any E ce ns sel (k : Int) r Hl.out.2.2 Hr9 hnsl w4 (HE.out.go HJ2.out.be)).mono ?_
      rintro e w' ⟨rfl, hw'⟩
      obtain rfl := hw'
      cases r with
      | false =>
        have hni : ¬ (k : Int) ∈ sel := of_decide_eq_false Hr9.out
        have hhb := sumH_bd (rows.map (·.c)) (hidL sel m) 500000000 (by decide) HcR.out k
        rw [← HP.out.hid_] at hhb
        have hbb : 0 ≤ bld ∧ bld < 1073741789 := by rw [HP.out.bld_]; omega
        have he1 : IntKind.i64.wrap (hid + xc) = hid + xc := IntWalk.i64_in _ (by omega)
        obtain ⟨hd2, hhd2⟩ : ∃ x, hid + xc = x := ⟨_, rfl⟩
        rw [hhd2] at he1
        have he2 : IntKind.i64.wrap (bld + bv) = bld + bv := IntWalk.i64_in _ (by omega)
        obtain ⟨bl2, hbl2⟩ : ∃ x, (bld + bv) % 1073741789 = x := ⟨_, rfl⟩
        have he3 : (bld + bv).tmod 1073741789 = bl2 := by rw [Int.tmod_eq_emod_of_nonneg (by omega)]; exact hbl2
        have HP2 : Hid (RShP rows bl sel m (k + 1) j ms hd2 bl2) := Lib.hid (HP.out.hidden hlt hni (by rw [Hxm.out, hhd2]) (by rw [Hbv.out, hbl2]))
        have He := Lib.hid (And.intro he1 (And.intro he2 he3))
        have Hhd2 := Lib.hid hhd2
        clear hhb hni HP he1 he2 he3 hhd2 hbl2 hbb
        go_upto_region 11 with fail
        have kd0 : w4.cell? ⟨D, 5, none⟩ = some (.int .i64 hid) := by rw [Lib.cell_of_heap HJ2.out.dd]; rfl
        have kd : w4.drew.cell? ⟨D, 5, none⟩ = some (.int .i64 hid) := kd0
        have kf : w4.drew.frozen? ⟨D, 5, none⟩ = false := Lib.frozen_of_heap (w := w4) HJ2.out.dd 5
        have hJ5' := (HJ2.out.go (W' := w4.drew) ((Below.refl _ _).drew)).num (f' := dfC person month root C3 (k + 1) c3 S j cs hd2 bld) 5 (.int .i64 hd2) rfl (fun W' r => ⟨r.c, r.s, r.sp, r.sa, r.sb⟩)
        have HH2 := Lib.hid (show Below w.heap.size w w4.drew ∧ w4.drew.heap[w.heap.size]? = some (.cells #[.string person, .int .i64 month, .slice (some ⟨b1, o1, none⟩) m ca, .slice (some ⟨b2, o2, none⟩) m cb, .int .u64 root.toNat] 27 (0, 0)) from ⟨HJ2.out.be.drew, HJ2.out.sh⟩)
        have HJ5 := Lib.hid (show ShJ w D #[.string person, .int .i64 month, .slice (some ⟨b1, o1, none⟩) m ca, .slice (some ⟨b2, o2, none⟩) m cb, .int .u64 root.toNat] (dfC person month root C3 (k + 1) c3 S j cs hd2 bld) (comL rows bl (k + 1)) ms [] [] (.slice Lv m lcap) m (leafK rows bl m) (w4.setCell ⟨D, 5, none⟩ (.int .i64 hd2)).drew from hJ5')
        have HH5 := Lib.hid (show Below w.heap.size w (w4.drew.setCell ⟨D, 5, none⟩ (.int .i64 hd2)) ∧ (w4.drew.setCell ⟨D, 5, none⟩ (.int .i64 hd2)).heap[w.heap.size]? = some (.cells #[.string person, .int .i64 month, .slice (some ⟨b1, o1, none⟩) m ca, .slice (some ⟨b2, o2, none⟩) m cb, .int .u64 root.toNat] 27 (0, 0)) from ⟨hJ5'.be, hJ5'.sh⟩)
        clear hJ5'
        refine wp_region_noPanic ?_
        refine wp_region_held_drew (S := fun W => Below w.heap.size w W ∧ W.heap[w.heap.size]? = some (.cells #[.string person, .int .i64 month, .slice (some ⟨b1, o1, none⟩) m ca, .slice (some ⟨b2, o2, none⟩) m cb, .int .u64 root.toNat] 27 (0, 0))) (by kernel_rfl) HH2.out (fun hHeld => ?_)
        refine wpAnyH_take (i := 0) (v := ?_) rfl (by kernel_rfl) (by kernel_rfl) (by kernel_rfl) (fun _ _ _ h => h) (Or.inl ⟨by kernel_rfl, ?_⟩) (by assumption) ?_
        rotate_left
        · intro w hSw
          (try dsimp only at hSw)
          go_simp
          first | done | with_reducible rfl
        simp only [List.getElem_toArray, List.getElem_cons_zero, List.getElem_cons_succ, Act.put, List.setIfInBounds_toArray, List.set_cons_zero, List.set_cons_succ]
        refine wpAnyH_take (i := 2) (v := ?_) rfl (by kernel_rfl) (by kernel_rfl) (by kernel_rfl) (fun _ _ _ h => h) (Or.inl ⟨by kernel_rfl, ?_⟩) (by assumption) ?_
        rotate_left
        · intro w hSw
          (try dsimp only at hSw)
          go_simp
          first | done | with_reducible rfl
        simp only [List.getElem_toArray, List.getElem_cons_zero, List.getElem_cons_succ, Act.put, List.setIfInBounds_toArray, List.set_cons_zero, List.set_cons_succ]
        refine wpAnyH_take (i := 3) (v := ?_) rfl (by kernel_rfl) (by kernel_rfl) (by kernel_rfl) (fun _ _ _ h => h) (Or.inl ⟨by kernel_rfl, ?_⟩) (by assumption) ?_
        rotate_left
        · intro w hSw
          (try dsimp only at hSw)
          have z0 := HS.out.1 w hSw.2
          go_simp
          first | done | with_reducible rfl
        simp only [List.getElem_toArray, List.getElem_cons_zero, List.getElem_cons_succ, Act.put, List.setIfInBounds_toArray, List.set_cons_zero, List.set_cons_succ]
        refine wpAnyH_take (i := 4) (v := ?_) rfl (by kernel_rfl) (by kernel_rfl) (by kernel_rfl) (fun _ _ _ h => h) (Or.inl ⟨by kernel_rfl, ?_⟩) (by assumption) ?_
        rotate_left
        · intro w hSw
          (try dsimp only at hSw)
          go_simp
          first | done | with_reducible rfl
        simp only [List.getElem_toArray, List.getElem_cons_zero, List.getElem_cons_succ, Act.put, List.setIfInBounds_toArray, List.set_cons_zero, List.set_cons_succ]
        refine wpAnyH_take (i := 5) (v := ?_) rfl (by kernel_rfl) (by kernel_rfl) (by kernel_rfl) (fun _ _ _ h => h) (Or.inl ⟨by kernel_rfl, ?_⟩) (by assumption) ?_
        rotate_left
        · intro w hSw
          (try dsimp only at hSw)
          go_simp
          first | done | with_reducible rfl
        simp only [List.getElem_toArray, List.getElem_cons_zero, List.getElem_cons_succ, Act.put, List.setIfInBounds_toArray, List.set_cons_zero, List.set_cons_succ]
        refine wpAnyH_take (i := 6) (v := ?_) rfl (by kernel_rfl) (by kernel_rfl) (by kernel_rfl) (fun _ _ _ h => h) (Or.inl ⟨by kernel_rfl, ?_⟩) (by assumption) ?_
        rotate_left
        · intro w hSw
          (try dsimp only at hSw)
          go_simp
          first | done | with_reducible rfl
        simp only [List.getElem_toArray, List.getElem_cons_zero, List.getElem_cons_succ, Act.put, List.setIfInBounds_toArray, List.set_cons_zero, List.set_cons_succ]
        refine wpAnyH_take (i := 7) (v := ?_) rfl (by kernel_rfl) (by kernel_rfl) (by kernel_rfl) (fun _ _ _ h => h) (Or.inl ⟨by kernel_rfl, ?_⟩) (by assumption) ?_
        rotate_left
        · intro w hSw
          (try dsimp only at hSw)
          have z0 := Hr.out.2.1 w hSw.1
          go_simp
          first | done | with_reducible rfl
        simp only [List.getElem_toArray, List.getElem_cons_zero, List.getElem_cons_succ, Act.put, List.setIfInBounds_toArray, List.set_cons_zero, List.set_cons_succ]
        refine wpAnyH_ready (rs := [1]) (by kernel_rfl) (by simp) ?_
        refine AllReadyH.cons rfl (fun K hK => ?_) ?_
        · simp only [List.getElem_toArray, List.getElem_cons_zero, List.getElem_cons_succ]
          go_simp
          refine hK.out _ _ HH2.out (fun hHeld => ?_)
          clear hK K
          try simp only [List.getElem_toArray, List.getElem_cons_zero, List.getElem_cons_succ, Act.put, List.setIfInBounds_toArray, List.set_cons_zero, List.set_cons_succ]
          refine wpAnyH_take (i := 8) (v := .int .i64 hd2) rfl (by kernel_rfl) (by kernel_rfl) (by kernel_rfl) (fun _ _ _ h => h) (Or.inl ⟨by kernel_rfl, ?_⟩) (by assumption) ?_
          · intro w hSw
            (try dsimp only at hSw)
            first | (go_simp; done) | (go_simp; simp [He.out.1, Hhd2.out])
          simp only [List.getElem_toArray, List.getElem_cons_zero, List.getElem_cons_succ, Act.put, List.setIfInBounds_toArray, List.set_cons_zero, List.set_cons_succ]
          refine wpAnyH_take (i := 9) (v := ?_) rfl (by kernel_rfl) (by kernel_rfl) (by kernel_rfl) (fun _ _ _ h => h) (Or.inl ⟨by kernel_rfl, ?_⟩) (by assumption) ?_
          rotate_left
          · intro w hSw
            (try dsimp only at hSw)
            go_simp
            first | done | with_reducible rfl
          simp only [List.getElem_toArray, List.getElem_cons_zero, List.getElem_cons_succ, Act.put, List.setIfInBounds_toArray, List.set_cons_zero, List.set_cons_succ]
          refine wpAnyH_ready (rs := [10]) (by kernel_rfl) (by simp) ?_
          refine AllReadyH.cons rfl (fun K hK => ?_) ?_
          · simp only [List.getElem_toArray, List.getElem_cons_zero, List.getElem_cons_succ]
            go_simp
            refine hK.out _ _ HH5.out (fun hHeld => ?_)
            clear hK K
            try simp only [List.getElem_toArray, List.getElem_cons_zero, List.getElem_cons_succ, Act.put, List.setIfInBounds_toArray, List.set_cons_zero, List.set_cons_succ]
            refine wpAnyH_done (by kernel_rfl) ?_ _
            dsimp only [NoPanic]
            clear hHeld
            obtain ⟨w5, hw5⟩ : ∃ w5 : World, w5 = (w4.setCell ⟨D, 5, none⟩ (.int .i64 hd2)).drew := ⟨_, rfl⟩
            rw [← hw5] at HJ5 ⊢
            clear hw5 HJ2 HH2 HH5 kd0 kd kf
            go_upto_region 12 with fail
            have kd0 : w5.cell? ⟨D, 6, none⟩ = some (.int .i64 bld) := by rw [Lib.cell_of_heap HJ5.out.dd]; rfl
            have kd : w5.drew.cell? ⟨D, 6, none⟩ = some (.int .i64 bld) := kd0
            have kf : w5.drew.frozen? ⟨D, 6, none⟩ = false := Lib.frozen_of_heap (w := w5) HJ5.out.dd 6
            have hJ6' := (HJ5.out.go (W' := w5.drew) ((Below.refl _ _).drew)).num (f' := dfC person month root C3 (k + 1) c3 S j cs hd2 bl2) 6 (.int .i64 bl2) rfl (fun W' r => ⟨r.c, r.s, r.sp, r.sa, r.sb⟩)
            have HH2 := Lib.hid (show Below w.heap.size w w5.drew ∧ w5.drew.heap[w.heap.size]? = some (.cells #[.string person, .int .i64 month, .slice (some ⟨b1, o1, none⟩) m ca, .slice (some ⟨b2, o2, none⟩) m cb, .int .u64 root.toNat] 27 (0, 0)) from ⟨HJ5.out.be.drew, HJ5.out.sh⟩)
            have HJ6 := Lib.hid hJ6'
            have HH6 := Lib.hid (show Below w.heap.size w (w5.drew.setCell ⟨D, 6, none⟩ (.int .i64 bl2)) ∧ (w5.drew.setCell ⟨D, 6, none⟩ (.int .i64 bl2)).heap[w.heap.size]? = some (.cells #[.string person, .int .i64 month, .slice (some ⟨b1, o1, none⟩) m ca, .slice (some ⟨b2, o2, none⟩) m cb, .int .u64 root.toNat] 27 (0, 0)) from ⟨hJ6'.be, hJ6'.sh⟩)
            clear hJ6' HJ5
            refine wp_region_noPanic ?_
            refine wp_region_held_drew (S := fun W => Below w.heap.size w W ∧ W.heap[w.heap.size]? = some (.cells #[.string person, .int .i64 month, .slice (some ⟨b1, o1, none⟩) m ca, .slice (some ⟨b2, o2, none⟩) m cb, .int .u64 root.toNat] 27 (0, 0))) (by kernel_rfl) HH2.out (fun hHeld => ?_)
            refine wpAnyH_take (i := 0) (v := ?_) rfl (by kernel_rfl) (by kernel_rfl) (by kernel_rfl) (fun _ _ _ h => h) (Or.inl ⟨by kernel_rfl, ?_⟩) (by assumption) ?_
            rotate_left
            · intro w hSw
              (try dsimp only at hSw)
              go_simp
              first | done | with_reducible rfl
            simp only [List.getElem_toArray, List.getElem_cons_zero, List.getElem_cons_succ, Act.put, List.setIfInBounds_toArray, List.set_cons_zero, List.set_cons_succ]
            refine wpAnyH_take (i := 2) (v := ?_) rfl (by kernel_rfl) (by kernel_rfl) (by kernel_rfl) (fun _ _ _ h => h) (Or.inl ⟨by kernel_rfl, ?_⟩) (by assumption) ?_
            rotate_left
            · intro w hSw
              (try dsimp only at hSw)
              go_simp
              first | done | with_reducible rfl
            simp only [List.getElem_toArray, List.getElem_cons_zero, List.getElem_cons_succ, Act.put, List.setIfInBounds_toArray, List.set_cons_zero, List.set_cons_succ]
            refine wpAnyH_take (i := 3) (v := ?_) rfl (by kernel_rfl) (by kernel_rfl) (by kernel_rfl) (fun _ _ _ h => h) (Or.inl ⟨by kernel_rfl, ?_⟩) (by assumption) ?_
            rotate_left
            · intro w hSw
              (try dsimp only at hSw)
              have z0 := HS.out.2 w hSw.2
              go_simp
              first | done | with_reducible rfl
            simp only [List.getElem_toArray, List.getElem_cons_zero, List.getElem_cons_succ, Act.put, List.setIfInBounds_toArray, List.set_cons_zero, List.set_cons_succ]
            refine wpAnyH_take (i := 4) (v := ?_) rfl (by kernel_rfl) (by kernel_rfl) (by kernel_rfl) (fun _ _ _ h => h) (Or.inl ⟨by kernel_rfl, ?_⟩) (by assumption) ?_
            rotate_left
            · intro w hSw
              (try dsimp only at hSw)
              go_simp
              first | done | with_reducible rfl
            simp only [List.getElem_toArray, List.getElem_cons_zero, List.getElem_cons_succ, Act.put, List.setIfInBounds_toArray, List.set_cons_zero, List.set_cons_succ]
            refine wpAnyH_take (i := 5) (v := ?_) rfl (by kernel_rfl) (by kernel_rfl) (by kernel_rfl) (fun _ _ _ h => h) (Or.inl ⟨by kernel_rfl, ?_⟩) (by assumption) ?_
            rotate_left
            · intro w hSw
              (try dsimp only at hSw)
              go_simp
              first | done | with_reducible rfl
            simp only [List.getElem_toArray, List.getElem_cons_zero, List.getElem_cons_succ, Act.put, List.setIfInBounds_toArray, List.set_cons_zero, List.set_cons_succ]
            refine wpAnyH_take (i := 6) (v := ?_) rfl (by kernel_rfl) (by kernel_rfl) (by kernel_rfl) (fun _ _ _ h => h) (Or.inl ⟨by kernel_rfl, ?_⟩) (by assumption) ?_
            rotate_left
            · intro w hSw
              (try dsimp only at hSw)
              have z0 := Hr.out.2.2.2 w hSw.1
              go_simp
              first | done | with_reducible rfl
            simp only [List.getElem_toArray, List.getElem_cons_zero, List.getElem_cons_succ, Act.put, List.setIfInBounds_toArray, List.set_cons_zero, List.set_cons_succ]
            refine wpAnyH_ready (rs := [1]) (by kernel_rfl) (by simp) ?_
            refine AllReadyH.cons rfl (fun K hK => ?_) ?_
            · simp only [List.getElem_toArray, List.getElem_cons_zero, List.getElem_cons_succ]
              go_simp
              refine hK.out _ _ HH2.out (fun hHeld => ?_)
              clear hK K
              try simp only [List.getElem_toArray, List.getElem_cons_zero, List.getElem_cons_succ, Act.put, List.setIfInBounds_toArray, List.set_cons_zero, List.set_cons_succ]
              refine wpAnyH_take (i := 7) (v := .int .i64 (bld + bv)) rfl (by kernel_rfl) (by kernel_rfl) (by kernel_rfl) (fun _ _ _ h => h) (Or.inl ⟨by kernel_rfl, ?_⟩) (by assumption) ?_
              · intro w hSw
                (try dsimp only at hSw)
                first | (go_simp; done) | (go_simp; simp [He.out.2.1])
              simp only [List.getElem_toArray, List.getElem_cons_zero, List.getElem_cons_succ, Act.put, List.setIfInBounds_toArray, List.set_cons_zero, List.set_cons_succ]
              refine wpAnyH_take (i := 8) (v := .int .i64 bl2) rfl (by kernel_rfl) (by kernel_rfl) (by kernel_rfl) (fun _ _ _ h => h) (Or.inl ⟨by kernel_rfl, ?_⟩) (by assumption) ?_
              · intro w hSw
                (try dsimp only at hSw)
                first | (go_simp; done) | (go_simp; simp [He.out.2.2])
              simp only [List.getElem_toArray, List.getElem_cons_zero, List.getElem_cons_succ, Act.put, List.setIfInBounds_toArray, List.set_cons_zero, List.set_cons_succ]
              refine wpAnyH_take (i := 9) (v := ?_) rfl (by kernel_rfl) (by kernel_rfl) (by kernel_rfl) (fun _ _ _ h => h) (Or.inl ⟨by kernel_rfl, ?_⟩) (by assumption) ?_
              rotate_left
              · intro w hSw
                (try dsimp only at hSw)
                go_simp
                first | done | with_reducible rfl
              simp only [List.getElem_toArray, List.getElem_cons_zero, List.getElem_cons_succ, Act.put, List.setIfInBounds_toArray, List.set_cons_zero, List.set_cons_succ]
              refine wpAnyH_ready (rs := [10]) (by kernel_rfl) (by simp) ?_
              refine AllReadyH.cons rfl (fun K hK => ?_) ?_
              · simp only [List.getElem_toArray, List.getElem_cons_zero, List.getElem_cons_succ]
                go_simp
                refine hK.out _ _ HH6.out (fun hHeld => ?_)
                clear hK K
                try simp only [List.getElem_toArray, List.getElem_cons_zero, List.getElem_cons_succ, Act.put, List.setIfInBounds_toArray, List.set_cons_zero, List.set_cons_succ]
                refine wpAnyH_done (by kernel_rfl) ?_ _
                dsimp only [NoPanic]
                clear hHeld
                clear HH2 HH6 kd0 kd kf
                go_wp2
                go_roundw
                case rel => exact ⟨k + 1, by omega, by go_num, C3, c3, S, j, cs, ms, hd2, bl2, HJ6.out, HP2.out⟩
                case measure => simp [intOf]; omega
              exact AllReadyH.nil
            exact AllReadyH.nil
          exact AllReadyH.nil
        exact AllReadyH.nil
      | true =>
        have hyi : (k : Int) ∈ sel := of_decide_eq_true Hr9.out
        obtain ⟨p2, hp2⟩ : ∃ p, pathL (leafK rows bl m) (k : Int) = p := ⟨_, rfl⟩
        have hpe : pathE m (k : Int) = 0 := by unfold pathE; rw [if_pos (checkE_in ⟨hn1, hn2⟩), if_pos ⟨by omega, by omega⟩]
        have Hp2 := Lib.hid (And.intro hp2 hpe)
        have Hyi := Lib.hid hyi
        obtain ⟨_, _, hvv, hSlv⟩ := own_slice HJ2.out.lv
        injection hvv with hv1 hv2 hv3
        subst hv1 hv3
        have HSlv := Lib.hid hSlv
        clear hp2 hpe hyi hSlv hv2
        go_wp2_with fail
        refine (rpath_own _ _ m (leafK rows bl m) (k : Int) p2 0 w4 (leafK_len _ _ _) Hp2.out.1 Hp2.out.2 HSlv.out (leafK_size (by rw [Hl.out.1]; exact Nat.le_refl _) Hs.out) (by omega)).mono ?_
        rintro e w1 ⟨PA, pc, rfl, hP1, hB1⟩
        have hJd := HJ2.out.go hB1.drew
        replace hP1 := own_mono hP1 HJ2.out.be.size
        have Hkey : Hid (ShM.key ⟨(k : Int), ⟨xl, xc, xr⟩, bv, PA, pc, p2⟩ = shkAt rows bl m (k : Int)) := Lib.hid (by
          unfold shkAt ShM.key
          rw [Int.toNat_natCast, Hxg.out, Hbv.out, Hp2.out.1])
        have HP2 : Hid (RShP rows bl sel m (k + 1) (j + 1) (ms ++ [⟨(k : Int), ⟨xl, xc, xr⟩, bv, PA, pc, p2⟩]) hid bld) := Lib.hid (HP.out.shown hlt Hyi.out Hkey.out)
        have hjk : j ≤ k := by
          rw [HP.out.j_]
          refine Nat.le_trans (List.length_filter_le _ _) ?_
          simp
        have hJa := hJd.al (.cells #[.int .i64 (k : Int), .string xl, .int .i64 xc, .string xr, .int .i64 bv, .slice PA p2.length pc] 48)
        have hPa : (w1.drew.alloc (.cells #[.int .i64 (k : Int), .string xl, .int .i64 xc, .string xr, .int .i64 bv, .slice PA p2.length pc] 48)).ownsRow w.heap.size 93 2 (.slice PA p2.length pc) p2.length (forkV p2) := World.ownsRow.alloc (w := w1.drew) hP1 (.cells #[.int .i64 (k : Int), .string xl, .int .i64 xc, .string xr, .int .i64 bv, .slice PA p2.length pc] 48)
        have kd0 : w1.drew.cell? ⟨D, 4, none⟩ = some (.slice S j cs) := by rw [Lib.cell_of_heap hJd.dd]; rfl
        have kd1 : (w1.drew.alloc (.cells #[.int .i64 (k : Int), .string xl, .int .i64 xc, .string xr, .int .i64 bv, .slice PA p2.length pc] 48)).cell? ⟨D, 4, none⟩ = some (.slice S j cs) := by rw [Lib.cell_of_heap hJa.dd]; rfl
        have kd2 : (w1.alloc (.cells #[.int .i64 (k : Int), .string xl, .int .i64 xc, .string xr, .int .i64 bv, .slice PA p2.length pc] 48)).cell? ⟨D, 4, none⟩ = some (.slice S j cs) := kd1
        have hH0 : Below w.heap.size w w1.drew ∧ w1.drew.heap[w.heap.size]? = some (.cells #[.string person, .int .i64 month, .slice (some ⟨b1, o1, none⟩) m ca, .slice (some ⟨b2, o2, none⟩) m cb, .int .u64 root.toNat] 27 (0, 0)) := ⟨hJd.be, hJd.sh⟩
        have hH1 : Below w.heap.size w (w1.drew.alloc (.cells #[.int .i64 (k : Int), .string xl, .int .i64 xc, .string xr, .int .i64 bv, .slice PA p2.length pc] 48)) ∧ (w1.drew.alloc (.cells #[.int .i64 (k : Int), .string xl, .int .i64 xc, .string xr, .int .i64 bv, .slice PA p2.length pc] 48)).heap[w.heap.size]? = some (.cells #[.string person, .int .i64 month, .slice (some ⟨b1, o1, none⟩) m ca, .slice (some ⟨b2, o2, none⟩) m cb, .int .u64 root.toNat] 27 (0, 0)) := ⟨hJa.be, hJa.sh⟩
        have HH0 := Lib.hid hH0
        have HH1 := Lib.hid hH1
        have HJa := Lib.hid hJa
        have HPa := Lib.hid hPa
        have hDw : w.heap.size + 1 < D := HJ2.out.hD
        clear hJd hP1 hJa hPa hH0 hH1 hB1 HJ2 HSlv HP hBw
        go_upto_region 14 with fail
        refine wp_region_noPanic ?_
        refine wp_region_held_drew (S := fun W => Below w.heap.size w W ∧ W.heap[w.heap.size]? = some (.cells #[.string person, .int .i64 month, .slice (some ⟨b1, o1, none⟩) m ca, .slice (some ⟨b2, o2, none⟩) m cb, .int .u64 root.toNat] 27 (0, 0))) (by kernel_rfl) HH0.out (fun hHeld => ?_)
        refine wpAnyH_take (i := 0) (v := ?_) rfl (by kernel_rfl) (by kernel_rfl) (by kernel_rfl) (fun _ _ _ h => h) (Or.inl ⟨by kernel_rfl, ?_⟩) (by assumption) ?_
        rotate_left
        · intro w hSw
          (try dsimp only at hSw)
          go_simp
          first | done | with_reducible rfl
        simp only [List.getElem_toArray, List.getElem_cons_zero, List.getElem_cons_succ, Act.put, List.setIfInBounds_toArray, List.set_cons_zero, List.set_cons_succ]
        refine wpAnyH_take (i := 2) (v := ?_) rfl (by kernel_rfl) (by kernel_rfl) (by kernel_rfl) (fun _ _ _ h => h) (Or.inl ⟨by kernel_rfl, ?_⟩) (by assumption) ?_
        rotate_left
        · intro w hSw
          (try dsimp only at hSw)
          go_simp
          first | done | with_reducible rfl
        simp only [List.getElem_toArray, List.getElem_cons_zero, List.getElem_cons_succ, Act.put, List.setIfInBounds_toArray, List.set_cons_zero, List.set_cons_succ]
        refine wpAnyH_take (i := 3) (v := ?_) rfl (by kernel_rfl) (by kernel_rfl) (by kernel_rfl) (fun _ _ _ h => h) (Or.inl ⟨by kernel_rfl, ?_⟩) (by assumption) ?_
        rotate_left
        · intro w hSw
          (try dsimp only at hSw)
          go_simp
          first | done | with_reducible rfl
        simp only [List.getElem_toArray, List.getElem_cons_zero, List.getElem_cons_succ, Act.put, List.setIfInBounds_toArray, List.set_cons_zero, List.set_cons_succ]
        refine wpAnyH_take (i := 4) (v := ?_) rfl (by kernel_rfl) (by kernel_rfl) (by kernel_rfl) (fun _ _ _ h => h) (Or.inl ⟨by kernel_rfl, ?_⟩) (by assumption) ?_
        rotate_left
        · intro w hSw
          (try dsimp only at hSw)
          have z0 := HS.out.1 w hSw.2
          go_simp
          first | done | with_reducible rfl
        simp only [List.getElem_toArray, List.getElem_cons_zero, List.getElem_cons_succ, Act.put, List.setIfInBounds_toArray, List.set_cons_zero, List.set_cons_succ]
        refine wpAnyH_take (i := 5) (v := ?_) rfl (by kernel_rfl) (by kernel_rfl) (by kernel_rfl) (fun _ _ _ h => h) (Or.inl ⟨by kernel_rfl, ?_⟩) (by assumption) ?_
        rotate_left
        · intro w hSw
          (try dsimp only at hSw)
          go_simp
          first | done | with_reducible rfl
        simp only [List.getElem_toArray, List.getElem_cons_zero, List.getElem_cons_succ, Act.put, List.setIfInBounds_toArray, List.set_cons_zero, List.set_cons_succ]
        refine wpAnyH_take (i := 6) (v := ?_) rfl (by kernel_rfl) (by kernel_rfl) (by kernel_rfl) (fun _ _ _ h => h) (Or.inl ⟨by kernel_rfl, ?_⟩) (by assumption) ?_
        rotate_left
        · intro w hSw
          (try dsimp only at hSw)
          go_simp
          first | done | with_reducible rfl
        simp only [List.getElem_toArray, List.getElem_cons_zero, List.getElem_cons_succ, Act.put, List.setIfInBounds_toArray, List.set_cons_zero, List.set_cons_succ]
        refine wpAnyH_take (i := 7) (v := ?_) rfl (by kernel_rfl) (by kernel_rfl) (by kernel_rfl) (fun _ _ _ h => h) (Or.inl ⟨by kernel_rfl, ?_⟩) (by assumption) ?_
        rotate_left
        · intro w hSw
          (try dsimp only at hSw)
          have z0 := Hr.out.1 w hSw.1
          have z1 := Hr.out.2.1 w hSw.1
          have z2 := Hr.out.2.2.1 w hSw.1
          go_simp
          first | done | with_reducible rfl
        simp only [List.getElem_toArray, List.getElem_cons_zero, List.getElem_cons_succ, Act.put, List.setIfInBounds_toArray, List.set_cons_zero, List.set_cons_succ]
        refine wpAnyH_take (i := 8) (v := ?_) rfl (by kernel_rfl) (by kernel_rfl) (by kernel_rfl) (fun _ _ _ h => h) (Or.inl ⟨by kernel_rfl, ?_⟩) (by assumption) ?_
        rotate_left
        · intro w hSw
          (try dsimp only at hSw)
          go_simp
          first | done | with_reducible rfl
        simp only [List.getElem_toArray, List.getElem_cons_zero, List.getElem_cons_succ, Act.put, List.setIfInBounds_toArray, List.set_cons_zero, List.set_cons_succ]
        refine wpAnyH_take (i := 9) (v := ?_) rfl (by kernel_rfl) (by kernel_rfl) (by kernel_rfl) (fun _ _ _ h => h) (Or.inl ⟨by kernel_rfl, ?_⟩) (by assumption) ?_
        rotate_left
        · intro w hSw
          (try dsimp only at hSw)
          have z0 := HS.out.2 w hSw.2
          go_simp
          first | done | with_reducible rfl
        simp only [List.getElem_toArray, List.getElem_cons_zero, List.getElem_cons_succ, Act.put, List.setIfInBounds_toArray, List.set_cons_zero, List.set_cons_succ]
        refine wpAnyH_take (i := 10) (v := ?_) rfl (by kernel_rfl) (by kernel_rfl) (by kernel_rfl) (fun _ _ _ h => h) (Or.inl ⟨by kernel_rfl, ?_⟩) (by assumption) ?_
        rotate_left
        · intro w hSw
          (try dsimp only at hSw)
          go_simp
          first | done | with_reducible rfl
        simp only [List.getElem_toArray, List.getElem_cons_zero, List.getElem_cons_succ, Act.put, List.setIfInBounds_toArray, List.set_cons_zero, List.set_cons_succ]
        refine wpAnyH_take (i := 11) (v := ?_) rfl (by kernel_rfl) (by kernel_rfl) (by kernel_rfl) (fun _ _ _ h => h) (Or.inl ⟨by kernel_rfl, ?_⟩) (by assumption) ?_
        rotate_left
        · intro w hSw
          (try dsimp only at hSw)
          go_simp
          first | done | with_reducible rfl
        simp only [List.getElem_toArray, List.getElem_cons_zero, List.getElem_cons_succ, Act.put, List.setIfInBounds_toArray, List.set_cons_zero, List.set_cons_succ]
        refine wpAnyH_take (i := 12) (v := ?_) rfl (by kernel_rfl) (by kernel_rfl) (by kernel_rfl) (fun _ _ _ h => h) (Or.inl ⟨by kernel_rfl, ?_⟩) (by assumption) ?_
        rotate_left
        · intro w hSw
          (try dsimp only at hSw)
          have z0 := Hr.out.2.2.2 w hSw.1
          go_simp
          first | done | with_reducible rfl
        simp only [List.getElem_toArray, List.getElem_cons_zero, List.getElem_cons_succ, Act.put, List.setIfInBounds_toArray, List.set_cons_zero, List.set_cons_succ]
        refine wpAnyH_take (i := 13) (v := ?_) rfl (by kernel_rfl) (by kernel_rfl) (by kernel_rfl) (fun _ _ _ h => h) (Or.inl ⟨by kernel_rfl, ?_⟩) (by assumption) ?_
        rotate_left
        · intro w hSw
          (try dsimp only at hSw)
          go_simp
          first | done | with_reducible rfl
        simp only [List.getElem_toArray, List.getElem_cons_zero, List.getElem_cons_succ, Act.put, List.setIfInBounds_toArray, List.set_cons_zero, List.set_cons_succ]
        refine wpAnyH_take (i := 14) (v := ?_) rfl (by kernel_rfl) (by kernel_rfl) (by kernel_rfl) (fun _ _ _ h => h) (Or.inl ⟨by kernel_rfl, ?_⟩) (by assumption) ?_
        rotate_left
        · intro w hSw
          (try dsimp only at hSw)
          go_simp
          first | done | with_reducible rfl
        simp only [List.getElem_toArray, List.getElem_cons_zero, List.getElem_cons_succ, Act.put, List.setIfInBounds_toArray, List.set_cons_zero, List.set_cons_succ]
        refine wpAnyH_ready (rs := [1, 15]) (by kernel_rfl) (by simp) ?_
        refine AllReadyH.cons rfl (fun K hK => ?_) ?_
        · simp only [List.getElem_toArray, List.getElem_cons_zero, List.getElem_cons_succ]
          go_simp
          refine hK.out _ _ HH0.out (fun hHeld => ?_)
          clear hK K
          try simp only [List.getElem_toArray, List.getElem_cons_zero, List.getElem_cons_succ, Act.put, List.setIfInBounds_toArray, List.set_cons_zero, List.set_cons_succ]
          refine wpAnyH_ready (rs := [15]) (by kernel_rfl) (by simp) ?_
          refine AllReadyH.cons rfl (fun K hK => ?_) ?_
          · simp only [List.getElem_toArray, List.getElem_cons_zero, List.getElem_cons_succ]
            go_simp
            refine hK.out _ _ HH1.out (fun hHeld => ?_)
            clear hK K
            try simp only [List.getElem_toArray, List.getElem_cons_zero, List.getElem_cons_succ, Act.put, List.setIfInBounds_toArray, List.set_cons_zero, List.set_cons_succ]
            refine wpAnyH_ready (rs := [16]) (by kernel_rfl) (by simp) ?_
            refine AllReadyH.cons rfl (fun K hK => ?_) ?_
            · refine step_src (w0 := w) (by rfl) _ _ 30 (by rfl) 48 i2 (.agg #[.int .i64 0, .string ⟨#[]⟩, .int .i64 0, .string ⟨#[]⟩, .int .i64 0, .slice none 0 0]) 6 80 Tryz.underlying30 hi2 hx0 hx1 hx2 (by rfl) (by decide) (.slice S j cs) j (shmsV ms) (by rfl) HJa.out.rw.s HJa.out.be (.slice (some ⟨w1.drew.heap.size, 0, none⟩) 1 1) 1 [.int .i64 (k : Int), .string xl, .int .i64 xc, .string xr, .int .i64 bv, .slice PA p2.length pc] (by rfl) (block_src w1.drew [.int .i64 (k : Int), .string xl, .int .i64 xc, .string xr, .int .i64 bv, .slice PA p2.length pc] _ _ 1 1 6 rfl) (by simp [Value.oneCell']) (by unfold maxLen; omega) (by omega) ?_
              intro v7 w7 hown7 hB7 hk7
              obtain ⟨S7, c7, hv7, _⟩ := own_slice hown7
              subst hv7
              have hb7 := (hk7.2 D (Array.getElem?_eq_some_iff.1 HJa.out.dd).1 (own_ne HJa.out.rw.s HJa.out.dd (by decide))).trans HJa.out.dd
              have hs7 := (hk7.2 w.heap.size (Array.getElem?_eq_some_iff.1 HJa.out.sh).1 (own_ne HJa.out.rw.s HJa.out.sh (by decide))).trans HJa.out.sh
              have kc7 : w7.cell? ⟨D, 4, none⟩ = some (.slice S j cs) := by rw [Lib.cell_of_heap hb7]; rfl
              have kf7 : w7.frozen? ⟨D, 4, none⟩ = false := Lib.frozen_of_heap hb7 4
              have hH8 : Below w.heap.size w (w7.setCell ⟨D, 4, none⟩ (.slice S7 (j + 1) c7)) ∧ (w7.setCell ⟨D, 4, none⟩ (.slice S7 (j + 1) c7)).heap[w.heap.size]? = some (.cells #[.string person, .int .i64 month, .slice (some ⟨b1, o1, none⟩) m ca, .slice (some ⟨b2, o2, none⟩) m cb, .int .u64 root.toNat] 27 (0, 0)) := ⟨hB7.setCell (by show w.heap.size ≤ D; omega) _, (Below.heap_setCell _ _ _ _ (by show w.heap.size ≠ D; omega)).trans hs7⟩
              refine hK.out _ _ ⟨hB7, hs7⟩ (fun hHeld => ?_)
              clear hK K
              try simp only [List.getElem_toArray, List.getElem_cons_zero, List.getElem_cons_succ, Act.put, List.setIfInBounds_toArray, List.set_cons_zero, List.set_cons_succ]
              refine wpAnyH_take (i := 17) (v := ?_) rfl (by kernel_rfl) (by kernel_rfl) (by kernel_rfl) (fun _ _ _ h => h) (Or.inl ⟨by kernel_rfl, ?_⟩) (by assumption) ?_
              rotate_left
              · intro w hSw
                (try dsimp only at hSw)
                go_simp
                first | done | with_reducible rfl
              simp only [List.getElem_toArray, List.getElem_cons_zero, List.getElem_cons_succ, Act.put, List.setIfInBounds_toArray, List.set_cons_zero, List.set_cons_succ]
              refine wpAnyH_ready (rs := [18]) (by kernel_rfl) (by simp) ?_
              refine AllReadyH.cons rfl (fun K hK => ?_) ?_
              · simp only [List.getElem_toArray, List.getElem_cons_zero, List.getElem_cons_succ]
                go_simp
                refine hK.out _ _ hH8 (fun hHeld => ?_)
                clear hK K
                try simp only [List.getElem_toArray, List.getElem_cons_zero, List.getElem_cons_succ, Act.put, List.setIfInBounds_toArray, List.set_cons_zero, List.set_cons_succ]
                refine wpAnyH_done (by kernel_rfl) ?_ _
                dsimp only [NoPanic]
                have hJ9 := HJa.out.shown (x := ⟨(k : Int), ⟨xl, xc, xr⟩, bv, PA, pc, p2⟩) HPa.out hk7 hB7 hown7
                have HJ9 := Lib.hid hJ9
                clear hHeld hown7 hb7 hs7 hB7 hk7 kc7 kf7 hH8 hJ9 kd0 kd1 kd2 HH0 HH1 HJa HPa
                go_wp2
                go_roundw
                case rel => exact ⟨k + 1, by omega, by go_num, C3, c3, S7, j + 1, c7, _, hid, bld, HJ9.out, HP2.out⟩
                case measure => simp [intOf]; omega
              exact AllReadyH.nil
            exact AllReadyH.nil
          exact AllReadyH.nil
        refine AllReadyH.cons rfl (fun K hK => ?_) ?_
        · simp only [List.getElem_toArray, List.getElem_cons_zero, List.getElem_cons_succ]
          go_simp
          refine hK.out _ _ HH1.out (fun hHeld => ?_)
          clear hK K
          try simp only [List.getElem_toArray, List.getElem_cons_zero, List.getElem_cons_succ, Act.put, List.setIfInBounds_toArray, List.set_cons_zero, List.set_cons_succ]
          refine wpAnyH_ready (rs := [1]) (by kernel_rfl) (by simp) ?_
          refine AllReadyH.cons rfl (fun K hK => ?_) ?_
          · simp only [List.getElem_toArray, List.getElem_cons_zero, List.getElem_cons_succ]
            go_simp
            refine hK.out _ _ HH1.out (fun hHeld => ?_)
            clear hK K
            try simp only [List.getElem_toArray, List.getElem_cons_zero, List.getElem_cons_succ, Act.put, List.setIfInBounds_toArray, List.set_cons_zero, List.set_cons_succ]
            refine wpAnyH_ready (rs := [16]) (by kernel_rfl) (by simp) ?_
            refine AllReadyH.cons rfl (fun K hK => ?_) ?_
            · refine step_src (w0 := w) (by rfl) _ _ 30 (by rfl) 48 i2 (.agg #[.int .i64 0, .string ⟨#[]⟩, .int .i64 0, .string ⟨#[]⟩, .int .i64 0, .slice none 0 0]) 6 80 Tryz.underlying30 hi2 hx0 hx1 hx2 (by rfl) (by decide) (.slice S j cs) j (shmsV ms) (by rfl) HJa.out.rw.s HJa.out.be (.slice (some ⟨w1.drew.heap.size, 0, none⟩) 1 1) 1 [.int .i64 (k : Int), .string xl, .int .i64 xc, .string xr, .int .i64 bv, .slice PA p2.length pc] (by rfl) (block_src w1.drew [.int .i64 (k : Int), .string xl, .int .i64 xc, .string xr, .int .i64 bv, .slice PA p2.length pc] _ _ 1 1 6 rfl) (by simp [Value.oneCell']) (by unfold maxLen; omega) (by omega) ?_
              intro v7 w7 hown7 hB7 hk7
              obtain ⟨S7, c7, hv7, _⟩ := own_slice hown7
              subst hv7
              have hb7 := (hk7.2 D (Array.getElem?_eq_some_iff.1 HJa.out.dd).1 (own_ne HJa.out.rw.s HJa.out.dd (by decide))).trans HJa.out.dd
              have hs7 := (hk7.2 w.heap.size (Array.getElem?_eq_some_iff.1 HJa.out.sh).1 (own_ne HJa.out.rw.s HJa.out.sh (by decide))).trans HJa.out.sh
              have kc7 : w7.cell? ⟨D, 4, none⟩ = some (.slice S j cs) := by rw [Lib.cell_of_heap hb7]; rfl
              have kf7 : w7.frozen? ⟨D, 4, none⟩ = false := Lib.frozen_of_heap hb7 4
              have hH8 : Below w.heap.size w (w7.setCell ⟨D, 4, none⟩ (.slice S7 (j + 1) c7)) ∧ (w7.setCell ⟨D, 4, none⟩ (.slice S7 (j + 1) c7)).heap[w.heap.size]? = some (.cells #[.string person, .int .i64 month, .slice (some ⟨b1, o1, none⟩) m ca, .slice (some ⟨b2, o2, none⟩) m cb, .int .u64 root.toNat] 27 (0, 0)) := ⟨hB7.setCell (by show w.heap.size ≤ D; omega) _, (Below.heap_setCell _ _ _ _ (by show w.heap.size ≠ D; omega)).trans hs7⟩
              refine hK.out _ _ ⟨hB7, hs7⟩ (fun hHeld => ?_)
              clear hK K
              try simp only [List.getElem_toArray, List.getElem_cons_zero, List.getElem_cons_succ, Act.put, List.setIfInBounds_toArray, List.set_cons_zero, List.set_cons_succ]
              refine wpAnyH_take (i := 17) (v := ?_) rfl (by kernel_rfl) (by kernel_rfl) (by kernel_rfl) (fun _ _ _ h => h) (Or.inl ⟨by kernel_rfl, ?_⟩) (by assumption) ?_
              rotate_left
              · intro w hSw
                (try dsimp only at hSw)
                go_simp
                first | done | with_reducible rfl
              simp only [List.getElem_toArray, List.getElem_cons_zero, List.getElem_cons_succ, Act.put, List.setIfInBounds_toArray, List.set_cons_zero, List.set_cons_succ]
              refine wpAnyH_ready (rs := [18]) (by kernel_rfl) (by simp) ?_
              refine AllReadyH.cons rfl (fun K hK => ?_) ?_
              · simp only [List.getElem_toArray, List.getElem_cons_zero, List.getElem_cons_succ]
                go_simp
                refine hK.out _ _ hH8 (fun hHeld => ?_)
                clear hK K
                try simp only [List.getElem_toArray, List.getElem_cons_zero, List.getElem_cons_succ, Act.put, List.setIfInBounds_toArray, List.set_cons_zero, List.set_cons_succ]
                refine wpAnyH_done (by kernel_rfl) ?_ _
                dsimp only [NoPanic]
                have hJ9 := HJa.out.shown (x := ⟨(k : Int), ⟨xl, xc, xr⟩, bv, PA, pc, p2⟩) HPa.out hk7 hB7 hown7
                have HJ9 := Lib.hid hJ9
                clear hHeld hown7 hb7 hs7 hB7 hk7 kc7 kf7 hH8 hJ9 kd0 kd1 kd2 HH0 HH1 HJa HPa
                go_wp2
                go_roundw
                case rel => exact ⟨k + 1, by omega, by go_num, C3, c3, S7, j + 1, c7, _, hid, bld, HJ9.out, HP2.out⟩
                case measure => simp [intOf]; omega
              exact AllReadyH.nil
            exact AllReadyH.nil
          exact AllReadyH.nil
        exact AllReadyH.nil
    · obtain rfl : m = k := by omega
      obtain ⟨tx, htx⟩ : ∃ t, dText person month root (comL rows bl m) = t := ⟨_, rfl⟩
      obtain ⟨dg, hdg⟩ : ∃ d, Dig.sum tx.data.toList = d := ⟨_, rfl⟩
      have htz : tx.size ≤ maxLen := by
        rw [← htx]
        refine Nat.le_trans (joinS_size _ 1000 ?_) ?_
        · intro s hs
          rcases List.mem_append.1 hs with hs | hs
          · simp only [dHead, List.mem_cons, List.not_mem_nil, or_false] at hs
            rcases hs with rfl | rfl | rfl | rfl
            · decide
            · omega
            · have := itoaB_size month HmI.out.1 HmI.out.2; omega
            · rw [textB_size]; omega
          · obtain ⟨x, hx', rfl⟩ := List.mem_map.1 hs
            have h1 := comL_bd rows bl m x hx'
            have := itoaB_size x (by omega) (by omega)
            omega
        · have : (dList person month root (comL rows bl m)).length = 4 + m := by simp only [dList, dHead, List.length_append, List.length_map, List.length_cons, List.length_nil, comL_len]
          rw [this]
          unfold maxLen
          omega
      have Htx := Lib.hid htx
      have Hdg := Lib.hid hdg
      have Htz := Lib.hid htz
      have hsh := HJ.out.sh
      have k0 : wr.cell? ⟨w.heap.size, 0, none⟩ = some (.string person) := by rw [Lib.cell_of_heap hsh]; rfl
      have k1 : wr.cell? ⟨w.heap.size, 1, none⟩ = some (.int .i64 month) := by rw [Lib.cell_of_heap hsh]; rfl
      have k2 : wr.cell? ⟨w.heap.size, 2, none⟩ = some (.slice A m ca) := by rw [Lib.cell_of_heap hsh]; rfl
      have k4 : wr.cell? ⟨w.heap.size, 4, none⟩ = some (.int .u64 root.toNat) := by rw [Lib.cell_of_heap hsh]; rfl
      have k3 : wr.cell? ⟨D, 3, none⟩ = some (.slice C m cc) := by rw [Lib.cell_of_heap HJ.out.dd]; rfl
      have hOC : wr.ownsRow w.heap.size 3 1 (.slice C m cc) m (intV (comL rows bl m)) := HJ.out.rw.c
      obtain ⟨C', cc', hC', hSC⟩ := own_slice hOC
      injection hC' with e1 e2 e3
      subst e1 e3
      have HSC := Lib.hid hSC
      clear hsh htx hdg htz hOC hSC e2
      go_wp2_with fail
      refine (rtext36_any person month root C cc m (comL rows bl m) tx (comL_len _ _ _) Htx HmI.out (fun x hx => by have := comL_bd rows bl m x hx; exact ⟨by omega, by omega⟩) (by omega) (by omega) wr HSC.out).mono ?_
      rintro e w1 ⟨rfl, hB1⟩
      have hJ1 := HJ.out.go hB1
      have HJ1 := Lib.hid hJ1
      have hBw1 := hJ1.be
      clear k0 k1 k2 k3 k4 hBw hJ1 HSC HJ hB1
      clear wr
      go_wp2_with fail
      cases hsg : signB seed h i with
      | false =>
        have he : er = 1 := by
          rw [← her.out]
          unfold showE
          rw [if_neg (fun hh => by rw [hsg] at hh; exact absurd hh.2.2 (by decide))]
        subst he
        refine (rsign_bad seed h i tx (Lib.hid hsg) hsd w1).mono ?_
        rintro e w2 ⟨rfl, hB2⟩
        have hJ2 := HJ1.out.go hB2
        clear hsg HJ1 hBw1 hB2
        clear w1
        go_upto_region 16 with fail
        obtain ⟨w3, hw3⟩ : ∃ w3 : World, w3 = w2.alloc (.cells #[.int .i64 0, .slice none 0 0, .slice none 0 0] 34) := ⟨_, rfl⟩
        have hJ3 := hJ2.al (.cells #[.int .i64 0, .slice none 0 0, .slice none 0 0] 34)
        rw [← hw3] at hJ3 ⊢
        clear hw3 hJ2
        have HJ3 := Lib.hid hJ3
        clear hJ3
        have hres := HJ3.out.rs
        have r0 : w3.cell? ⟨w.heap.size + 1, 0, none⟩ = some (.string ⟨#[]⟩) := by rw [Lib.cell_of_heap hres]; rfl
        have r1 : w3.cell? ⟨w.heap.size + 1, 1, none⟩ = some (.int .i64 0) := by rw [Lib.cell_of_heap hres]; rfl
        have r2 : w3.cell? ⟨w.heap.size + 1, 2, none⟩ = some (.int .u64 0) := by rw [Lib.cell_of_heap hres]; rfl
        have r3 : w3.cell? ⟨w.heap.size + 1, 3, none⟩ = some (.slice none 0 0) := by rw [Lib.cell_of_heap hres]; rfl
        have r4 : w3.cell? ⟨w.heap.size + 1, 4, none⟩ = some (.slice none 0 0) := by rw [Lib.cell_of_heap hres]; rfl
        have r5 : w3.cell? ⟨w.heap.size + 1, 5, none⟩ = some (.int .i64 0) := by rw [Lib.cell_of_heap hres]; rfl
        have r6 : w3.cell? ⟨w.heap.size + 1, 6, none⟩ = some (.int .i64 0) := by rw [Lib.cell_of_heap hres]; rfl
        have r7 : w3.cell? ⟨w.heap.size + 1, 7, none⟩ = some (.int .i64 0) := by rw [Lib.cell_of_heap hres]; rfl
        have r8 : w3.cell? ⟨w.heap.size + 1, 8, none⟩ = some (.slice none 0 0) := by rw [Lib.cell_of_heap hres]; rfl
        have r9 : w3.cell? ⟨w.heap.size + 1, 9, none⟩ = some (.slice none 0 0) := by rw [Lib.cell_of_heap hres]; rfl
        have f0 : ∀ j, w3.frozen? ⟨w.heap.size + 1, j, none⟩ = false := fun j => Lib.frozen_of_heap hres j
        have B0 := Lib.hid (HJ3.out.be)
        clear hres
        go_wp2_with fail
        have b0 := B0.out
        have b1 := b0.setCell (p := ⟨w.heap.size + 1, 0, none⟩) (by show w.heap.size ≤ w.heap.size + 1; omega) (.string ⟨#[]⟩)
        have b2 := b1.setCell (p := ⟨w.heap.size + 1, 1, none⟩) (by show w.heap.size ≤ w.heap.size + 1; omega) (.int .i64 0)
        have b3 := b2.setCell (p := ⟨w.heap.size + 1, 2, none⟩) (by show w.heap.size ≤ w.heap.size + 1; omega) (.int .u64 0)
        have b4 := b3.setCell (p := ⟨w.heap.size + 1, 3, none⟩) (by show w.heap.size ≤ w.heap.size + 1; omega) (.slice none 0 0)
        have b5 := b4.setCell (p := ⟨w.heap.size + 1, 4, none⟩) (by show w.heap.size ≤ w.heap.size + 1; omega) (.slice none 0 0)
        have b6 := b5.setCell (p := ⟨w.heap.size + 1, 5, none⟩) (by show w.heap.size ≤ w.heap.size + 1; omega) (.int .i64 0)
        have b7 := b6.setCell (p := ⟨w.heap.size + 1, 6, none⟩) (by show w.heap.size ≤ w.heap.size + 1; omega) (.int .i64 0)
        have b8 := b7.setCell (p := ⟨w.heap.size + 1, 7, none⟩) (by show w.heap.size ≤ w.heap.size + 1; omega) (.int .i64 0)
        have b9 := b8.setCell (p := ⟨w.heap.size + 1, 8, none⟩) (by show w.heap.size ≤ w.heap.size + 1; omega) (.slice none 0 0)
        have b10 := b9.setCell (p := ⟨w.heap.size + 1, 9, none⟩) (by show w.heap.size ≤ w.heap.size + 1; omega) (.slice none 0 0)
        refine bodyPost_ret (v := .tuple #[.agg DF.none.cells, .int .i64 1]) (by simp [results, Tryz.results7, go_sem, DF.none, DF.cells, r0, r1, r2, r3, r4, r5, r6, r7, r8, r9]) rfl (none_left (by decide) ⟨rfl, b10⟩)
      | true =>
        unfold signB at hsg
        rw [Bool.and_eq_true, decide_eq_true_eq] at hsg
        obtain ⟨hok, hi0, hi1⟩ := hsg
        obtain ⟨hz, hh0, hh8⟩ := okB_out hok
        obtain ⟨hN, rfl⟩ : ∃ hN : Nat, h = (hN : Int) := ⟨h.toNat, by omega⟩
        obtain ⟨iN, rfl⟩ : ∃ iN : Nat, i = (iN : Int) := ⟨i.toNat, by omega⟩
        rw [Int.toNat_natCast] at hi1
        obtain ⟨N, hNe⟩ : ∃ N, 2 ^ hN = N := ⟨_, rfl⟩
        rw [hNe] at hi1
        have hiN : iN < N := by omega
        obtain ⟨p, hp'⟩ : ∃ p, pathL (leavesB seed N) (iN : Int) = p := ⟨_, rfl⟩
        have Hp := Lib.hid hp'
        have Her : Hid (er = if -500000000 ≤ sumH (rows.map (·.c)) (hidL sel m) m ∧ sumH (rows.map (·.c)) (hidL sel m) m ≤ 500000000 then 0 else 3) := Lib.hid (by
          rw [← her.out]
          unfold showE
          rw [if_pos ⟨hv.out, by rw [Hl.out.1]; exact hsel.out, by unfold signB; rw [Bool.and_eq_true, decide_eq_true_eq]; exact ⟨hok, hi0, by rw [Int.toNat_natCast, hNe]; exact hi1⟩⟩, Hl.out.1])
        have HNe := Lib.hid hNe
        clear hp' hok hi0 hi1 hNe
        refine (rsign_own seed hN iN N (by omega) HNe hiN hz tx dg Hdg Htz.out p Hp w1 (HT.out.go hBw1).ot).mono ?_
        rintro e w2 ⟨SA, sca, SB, scb, rfl, hSA, hSB, hB2⟩
        have hJ2 := HJ1.out.go hB2
        replace hSA := own_mono hSA hBw1.size
        replace hSB := own_mono hSB hBw1.size
        clear HJ1 hBw1 hB2
        clear w1
        go_upto_region 16 with fail
        obtain ⟨w3, hw3⟩ : ∃ w3 : World, w3 = w2.alloc (.cells #[.int .i64 (iN : Int), .slice SA 18 sca, .slice SB p.length scb] 34) := ⟨_, rfl⟩
        have hJ3 := hJ2.al (.cells #[.int .i64 (iN : Int), .slice SA 18 sca, .slice SB p.length scb] 34)
        have hSA3 := hSA.alloc (.cells #[.int .i64 (iN : Int), .slice SA 18 sca, .slice SB p.length scb] 34)
        have hSB3 := hSB.alloc (.cells #[.int .i64 (iN : Int), .slice SA 18 sca, .slice SB p.length scb] 34)
        have hG : w3.heap[w2.heap.size]? = some (.cells #[.int .i64 (iN : Int), .slice SA 18 sca, .slice SB p.length scb] 34 (0, 0)) := by rw [hw3]; exact World.alloc_heap_new _ _
        rw [← hw3] at hJ3 hSA3 hSB3 ⊢
        obtain ⟨T, hT'⟩ : ∃ T, T = w2.heap.size := ⟨_, rfl⟩
        rw [← hT'] at hG ⊢
        have HJ3 := Lib.hid hJ3
        have HSg := Lib.hid (And.intro hSA3 (And.intro hSB3 hG))
        clear hJ2 hSA hSB hw3 hT' hJ3 hSA3 hSB3 hG
        clear w2
        have d5 : w3.cell? ⟨D, 5, none⟩ = some (.int .i64 hid) := by rw [Lib.cell_of_heap HJ3.out.dd]; rfl
        obtain ⟨Pj, Pm, Ph, Pb⟩ := HP.out
        rw [HselK.out] at Pj Pm
        have Hh := Lib.hid (And.intro Pj (And.intro Pm (And.intro Ph Pb)))
        have her2 := Her.out
        rw [← Ph] at her2
        clear Pj Pm Ph Pb HP Her
        by_cases hlo : hid < -500000000
        · have he : er = 3 := by rw [her2, if_neg (by omega)]
          subst he
          clear her2
          have hres := HJ3.out.rs
          have r0 : w3.cell? ⟨w.heap.size + 1, 0, none⟩ = some (.string ⟨#[]⟩) := by rw [Lib.cell_of_heap hres]; rfl
          have r1 : w3.cell? ⟨w.heap.size + 1, 1, none⟩ = some (.int .i64 0) := by rw [Lib.cell_of_heap hres]; rfl
          have r2 : w3.cell? ⟨w.heap.size + 1, 2, none⟩ = some (.int .u64 0) := by rw [Lib.cell_of_heap hres]; rfl
          have r3 : w3.cell? ⟨w.heap.size + 1, 3, none⟩ = some (.slice none 0 0) := by rw [Lib.cell_of_heap hres]; rfl
          have r4 : w3.cell? ⟨w.heap.size + 1, 4, none⟩ = some (.slice none 0 0) := by rw [Lib.cell_of_heap hres]; rfl
          have r5 : w3.cell? ⟨w.heap.size + 1, 5, none⟩ = some (.int .i64 0) := by rw [Lib.cell_of_heap hres]; rfl
          have r6 : w3.cell? ⟨w.heap.size + 1, 6, none⟩ = some (.int .i64 0) := by rw [Lib.cell_of_heap hres]; rfl
          have r7 : w3.cell? ⟨w.heap.size + 1, 7, none⟩ = some (.int .i64 0) := by rw [Lib.cell_of_heap hres]; rfl
          have r8 : w3.cell? ⟨w.heap.size + 1, 8, none⟩ = some (.slice none 0 0) := by rw [Lib.cell_of_heap hres]; rfl
          have r9 : w3.cell? ⟨w.heap.size + 1, 9, none⟩ = some (.slice none 0 0) := by rw [Lib.cell_of_heap hres]; rfl
          have f0 : ∀ j, w3.frozen? ⟨w.heap.size + 1, j, none⟩ = false := fun j => Lib.frozen_of_heap hres j
          have B0 := Lib.hid (HJ3.out.be)
          clear hres
          go_wp2_with fail
          have b0 := B0.out
          have b1 := b0.setCell (p := ⟨w.heap.size + 1, 0, none⟩) (by show w.heap.size ≤ w.heap.size + 1; omega) (.string ⟨#[]⟩)
          have b2 := b1.setCell (p := ⟨w.heap.size + 1, 1, none⟩) (by show w.heap.size ≤ w.heap.size + 1; omega) (.int .i64 0)
          have b3 := b2.setCell (p := ⟨w.heap.size + 1, 2, none⟩) (by show w.heap.size ≤ w.heap.size + 1; omega) (.int .u64 0)
          have b4 := b3.setCell (p := ⟨w.heap.size + 1, 3, none⟩) (by show w.heap.size ≤ w.heap.size + 1; omega) (.slice none 0 0)
          have b5 := b4.setCell (p := ⟨w.heap.size + 1, 4, none⟩) (by show w.heap.size ≤ w.heap.size + 1; omega) (.slice none 0 0)
          have b6 := b5.setCell (p := ⟨w.heap.size + 1, 5, none⟩) (by show w.heap.size ≤ w.heap.size + 1; omega) (.int .i64 0)
          have b7 := b6.setCell (p := ⟨w.heap.size + 1, 6, none⟩) (by show w.heap.size ≤ w.heap.size + 1; omega) (.int .i64 0)
          have b8 := b7.setCell (p := ⟨w.heap.size + 1, 7, none⟩) (by show w.heap.size ≤ w.heap.size + 1; omega) (.int .i64 0)
          have b9 := b8.setCell (p := ⟨w.heap.size + 1, 8, none⟩) (by show w.heap.size ≤ w.heap.size + 1; omega) (.slice none 0 0)
          have b10 := b9.setCell (p := ⟨w.heap.size + 1, 9, none⟩) (by show w.heap.size ≤ w.heap.size + 1; omega) (.slice none 0 0)
          refine bodyPost_ret (v := .tuple #[.agg DF.none.cells, .int .i64 3]) (by simp [results, Tryz.results7, go_sem, DF.none, DF.cells, r0, r1, r2, r3, r4, r5, r6, r7, r8, r9]) rfl (none_left (by decide) ⟨rfl, b10⟩)
        · by_cases hhi : 500000000 < hid
          · have he : er = 3 := by rw [her2, if_neg (by omega)]
            subst he
            clear her2
            have hres := HJ3.out.rs
            have r0 : w3.cell? ⟨w.heap.size + 1, 0, none⟩ = some (.string ⟨#[]⟩) := by rw [Lib.cell_of_heap hres]; rfl
            have r1 : w3.cell? ⟨w.heap.size + 1, 1, none⟩ = some (.int .i64 0) := by rw [Lib.cell_of_heap hres]; rfl
            have r2 : w3.cell? ⟨w.heap.size + 1, 2, none⟩ = some (.int .u64 0) := by rw [Lib.cell_of_heap hres]; rfl
            have r3 : w3.cell? ⟨w.heap.size + 1, 3, none⟩ = some (.slice none 0 0) := by rw [Lib.cell_of_heap hres]; rfl
            have r4 : w3.cell? ⟨w.heap.size + 1, 4, none⟩ = some (.slice none 0 0) := by rw [Lib.cell_of_heap hres]; rfl
            have r5 : w3.cell? ⟨w.heap.size + 1, 5, none⟩ = some (.int .i64 0) := by rw [Lib.cell_of_heap hres]; rfl
            have r6 : w3.cell? ⟨w.heap.size + 1, 6, none⟩ = some (.int .i64 0) := by rw [Lib.cell_of_heap hres]; rfl
            have r7 : w3.cell? ⟨w.heap.size + 1, 7, none⟩ = some (.int .i64 0) := by rw [Lib.cell_of_heap hres]; rfl
            have r8 : w3.cell? ⟨w.heap.size + 1, 8, none⟩ = some (.slice none 0 0) := by rw [Lib.cell_of_heap hres]; rfl
            have r9 : w3.cell? ⟨w.heap.size + 1, 9, none⟩ = some (.slice none 0 0) := by rw [Lib.cell_of_heap hres]; rfl
            have f0 : ∀ j, w3.frozen? ⟨w.heap.size + 1, j, none⟩ = false := fun j => Lib.frozen_of_heap hres j
            have B0 := Lib.hid (HJ3.out.be)
            clear hres
            go_wp2_with fail
            have b0 := B0.out
            have b1 := b0.setCell (p := ⟨w.heap.size + 1, 0, none⟩) (by show w.heap.size ≤ w.heap.size + 1; omega) (.string ⟨#[]⟩)
            have b2 := b1.setCell (p := ⟨w.heap.size + 1, 1, none⟩) (by show w.heap.size ≤ w.heap.size + 1; omega) (.int .i64 0)
            have b3 := b2.setCell (p := ⟨w.heap.size + 1, 2, none⟩) (by show w.heap.size ≤ w.heap.size + 1; omega) (.int .u64 0)
            have b4 := b3.setCell (p := ⟨w.heap.size + 1, 3, none⟩) (by show w.heap.size ≤ w.heap.size + 1; omega) (.slice none 0 0)
            have b5 := b4.setCell (p := ⟨w.heap.size + 1, 4, none⟩) (by show w.heap.size ≤ w.heap.size + 1; omega) (.slice none 0 0)
            have b6 := b5.setCell (p := ⟨w.heap.size + 1, 5, none⟩) (by show w.heap.size ≤ w.heap.size + 1; omega) (.int .i64 0)
            have b7 := b6.setCell (p := ⟨w.heap.size + 1, 6, none⟩) (by show w.heap.size ≤ w.heap.size + 1; omega) (.int .i64 0)
            have b8 := b7.setCell (p := ⟨w.heap.size + 1, 7, none⟩) (by show w.heap.size ≤ w.heap.size + 1; omega) (.int .i64 0)
            have b9 := b8.setCell (p := ⟨w.heap.size + 1, 8, none⟩) (by show w.heap.size ≤ w.heap.size + 1; omega) (.slice none 0 0)
            have b10 := b9.setCell (p := ⟨w.heap.size + 1, 9, none⟩) (by show w.heap.size ≤ w.heap.size + 1; omega) (.slice none 0 0)
            refine bodyPost_ret (v := .tuple #[.agg DF.none.cells, .int .i64 3]) (by simp [results, Tryz.results7, go_sem, DF.none, DF.cells, r0, r1, r2, r3, r4, r5, r6, r7, r8, r9]) rfl (none_left (by decide) ⟨rfl, b10⟩)
          · have he : er = 0 := by rw [her2, if_pos (by omega)]
            subst he
            clear her2
            have s0 : w3.cell? ⟨T, 0, none⟩ = some (.int .i64 (iN : Int)) := by rw [Lib.cell_of_heap HSg.out.2.2]; rfl
            have s1 : w3.cell? ⟨T, 1, none⟩ = some (.slice SA 18 sca) := by rw [Lib.cell_of_heap HSg.out.2.2]; rfl
            have s2 : w3.cell? ⟨T, 2, none⟩ = some (.slice SB p.length scb) := by rw [Lib.cell_of_heap HSg.out.2.2]; rfl
            have d7 : w3.cell? ⟨D, 7, none⟩ = some (.int .i64 0) := by rw [Lib.cell_of_heap HJ3.out.dd]; rfl
            have d8 : w3.cell? ⟨D, 8, none⟩ = some (.slice none 0 0) := by rw [Lib.cell_of_heap HJ3.out.dd]; rfl
            have d9 : w3.cell? ⟨D, 9, none⟩ = some (.slice none 0 0) := by rw [Lib.cell_of_heap HJ3.out.dd]; rfl
            have fD : ∀ j, w3.frozen? ⟨D, j, none⟩ = false := fun j => Lib.frozen_of_heap HJ3.out.dd j
            have hJ4' := HJ3.out.sig (si := (iN : Int)) HSg.out.1 HSg.out.2.1
            have hJ4 : ShJ w D #[.string person, .int .i64 month, .slice A m ca, .slice B m cb, .int .u64 root.toNat] (dfB person month root C m cc S j cs hid bld (iN : Int) SA sca SB p.length scb) (comL rows bl m) ms (On.chains seed.data.toList (iN : Int) dg 18) p _ m (leafK rows bl m) (((w3.setCell ⟨D, 7, none⟩ (.int .i64 (iN : Int))).setCell ⟨D, 8, none⟩ (.slice SA 18 sca)).setCell ⟨D, 9, none⟩ (.slice SB p.length scb)) := hJ4'
            have HJ4 := Lib.hid hJ4
            clear hJ4 hJ4' HSg HJ3
            go_upto_region 21 with fail
            obtain ⟨w4, hw4⟩ : ∃ w4, w4 = ((w3.setCell ⟨D, 7, none⟩ (.int .i64 (iN : Int))).setCell ⟨D, 8, none⟩ (.slice SA 18 sca)).setCell ⟨D, 9, none⟩ (.slice SB p.length scb) := ⟨_, rfl⟩
            rw [← hw4] at HJ4 ⊢
            clear s0 s1 s2 d5 d7 d8 d9 fD hw4
            clear w3
            have hdd := HJ4.out.dd
            have hres := HJ4.out.rs
            have k0 : w4.cell? ⟨D, 0, none⟩ = some (.string person) := by rw [Lib.cell_of_heap hdd]; rfl
            have k1 : w4.cell? ⟨D, 1, none⟩ = some (.int .i64 month) := by rw [Lib.cell_of_heap hdd]; rfl
            have k2 : w4.cell? ⟨D, 2, none⟩ = some (.int .u64 root.toNat) := by rw [Lib.cell_of_heap hdd]; rfl
            have k3 : w4.cell? ⟨D, 3, none⟩ = some (.slice C m cc) := by rw [Lib.cell_of_heap hdd]; rfl
            have k4 : w4.cell? ⟨D, 4, none⟩ = some (.slice S j cs) := by rw [Lib.cell_of_heap hdd]; rfl
            have k5 : w4.cell? ⟨D, 5, none⟩ = some (.int .i64 hid) := by rw [Lib.cell_of_heap hdd]; rfl
            have k6 : w4.cell? ⟨D, 6, none⟩ = some (.int .i64 bld) := by rw [Lib.cell_of_heap hdd]; rfl
            have k7 : w4.cell? ⟨D, 7, none⟩ = some (.int .i64 (iN : Int)) := by rw [Lib.cell_of_heap hdd]; rfl
            have k8 : w4.cell? ⟨D, 8, none⟩ = some (.slice SA 18 sca) := by rw [Lib.cell_of_heap hdd]; rfl
            have k9 : w4.cell? ⟨D, 9, none⟩ = some (.slice SB p.length scb) := by rw [Lib.cell_of_heap hdd]; rfl
            have r0 : w4.cell? ⟨w.heap.size + 1, 0, none⟩ = some (.string ⟨#[]⟩) := by rw [Lib.cell_of_heap hres]; rfl
            have r1 : w4.cell? ⟨w.heap.size + 1, 1, none⟩ = some (.int .i64 0) := by rw [Lib.cell_of_heap hres]; rfl
            have r2 : w4.cell? ⟨w.heap.size + 1, 2, none⟩ = some (.int .u64 0) := by rw [Lib.cell_of_heap hres]; rfl
            have r3 : w4.cell? ⟨w.heap.size + 1, 3, none⟩ = some (.slice none 0 0) := by rw [Lib.cell_of_heap hres]; rfl
            have r4 : w4.cell? ⟨w.heap.size + 1, 4, none⟩ = some (.slice none 0 0) := by rw [Lib.cell_of_heap hres]; rfl
            have r5 : w4.cell? ⟨w.heap.size + 1, 5, none⟩ = some (.int .i64 0) := by rw [Lib.cell_of_heap hres]; rfl
            have r6 : w4.cell? ⟨w.heap.size + 1, 6, none⟩ = some (.int .i64 0) := by rw [Lib.cell_of_heap hres]; rfl
            have r7 : w4.cell? ⟨w.heap.size + 1, 7, none⟩ = some (.int .i64 0) := by rw [Lib.cell_of_heap hres]; rfl
            have r8 : w4.cell? ⟨w.heap.size + 1, 8, none⟩ = some (.slice none 0 0) := by rw [Lib.cell_of_heap hres]; rfl
            have r9 : w4.cell? ⟨w.heap.size + 1, 9, none⟩ = some (.slice none 0 0) := by rw [Lib.cell_of_heap hres]; rfl
            have f0 : ∀ j, w4.frozen? ⟨w.heap.size + 1, j, none⟩ = false := fun j => Lib.frozen_of_heap hres j
            clear hdd hres
            go_wp2_with fail
            have e0 := HJ4.out.rw
            have b0 := HJ4.out.be
            have z0 := HJ4.out.rs
            have e1 := e0.set (j := 0) (u := .string person) z0 rfl
            have z1 := setCell_heap (j := 0) (v := .string person) z0
            have b1 := b0.setCell (p := ⟨w.heap.size + 1, 0, none⟩) (by show w.heap.size ≤ w.heap.size + 1; omega) (.string person)
            have e2 := e1.set (j := 1) (u := .int .i64 month) z1 rfl
            have z2 := setCell_heap (j := 1) (v := .int .i64 month) z1
            have b2 := b1.setCell (p := ⟨w.heap.size + 1, 1, none⟩) (by show w.heap.size ≤ w.heap.size + 1; omega) (.int .i64 month)
            have e3 := e2.set (j := 2) (u := .int .u64 root.toNat) z2 rfl
            have z3 := setCell_heap (j := 2) (v := .int .u64 root.toNat) z2
            have b3 := b2.setCell (p := ⟨w.heap.size + 1, 2, none⟩) (by show w.heap.size ≤ w.heap.size + 1; omega) (.int .u64 root.toNat)
            have e4 := e3.set (j := 3) (u := .slice C m cc) z3 rfl
            have z4 := setCell_heap (j := 3) (v := .slice C m cc) z3
            have b4 := b3.setCell (p := ⟨w.heap.size + 1, 3, none⟩) (by show w.heap.size ≤ w.heap.size + 1; omega) (.slice C m cc)
            have e5 := e4.set (j := 4) (u := .slice S j cs) z4 rfl
            have z5 := setCell_heap (j := 4) (v := .slice S j cs) z4
            have b5 := b4.setCell (p := ⟨w.heap.size + 1, 4, none⟩) (by show w.heap.size ≤ w.heap.size + 1; omega) (.slice S j cs)
            have e6 := e5.set (j := 5) (u := .int .i64 hid) z5 rfl
            have z6 := setCell_heap (j := 5) (v := .int .i64 hid) z5
            have b6 := b5.setCell (p := ⟨w.heap.size + 1, 5, none⟩) (by show w.heap.size ≤ w.heap.size + 1; omega) (.int .i64 hid)
            have e7 := e6.set (j := 6) (u := .int .i64 bld) z6 rfl
            have z7 := setCell_heap (j := 6) (v := .int .i64 bld) z6
            have b7 := b6.setCell (p := ⟨w.heap.size + 1, 6, none⟩) (by show w.heap.size ≤ w.heap.size + 1; omega) (.int .i64 bld)
            have e8 := e7.set (j := 7) (u := .int .i64 (iN : Int)) z7 rfl
            have z8 := setCell_heap (j := 7) (v := .int .i64 (iN : Int)) z7
            have b8 := b7.setCell (p := ⟨w.heap.size + 1, 7, none⟩) (by show w.heap.size ≤ w.heap.size + 1; omega) (.int .i64 (iN : Int))
            have e9 := e8.set (j := 8) (u := .slice SA 18 sca) z8 rfl
            have z9 := setCell_heap (j := 8) (v := .slice SA 18 sca) z8
            have b9 := b8.setCell (p := ⟨w.heap.size + 1, 8, none⟩) (by show w.heap.size ≤ w.heap.size + 1; omega) (.slice SA 18 sca)
            have e10 := e9.set (j := 9) (u := .slice SB p.length scb) z9 rfl
            have z10 := setCell_heap (j := 9) (v := .slice SB p.length scb) z9
            have b10 := b9.setCell (p := ⟨w.heap.size + 1, 9, none⟩) (by show w.heap.size ≤ w.heap.size + 1; omega) (.slice SB p.length scb)
            refine bodyPost_ret (v := .tuple #[.agg (dfB person month root C m cc S j cs hid bld (iN : Int) SA sca SB p.length scb).cells, .int .i64 0]) (by simp [results, Tryz.results7, go_sem, dfB, DF.cells, r0, r1, r2, r3, r4, r5, r6, r7, r8, r9]) rfl ⟨dfB person month root C m cc S j cs hid bld (iN : Int) SA sca SB p.length scb, comL rows bl m, ms, On.chains seed.data.toList (iN : Int) dg 18, p, rfl, fun hh => absurd rfl hh, fun _ => ⟨?_, e10⟩, b10⟩
            rw [Hl.out.1, Int.toNat_natCast, Int.toNat_natCast, HNe.out]
            refine ⟨rfl, rfl, rfl, rfl, rfl, Hh.out.2.1, ?_, Hh.out.2.2.1, Hh.out.2.2.2, rfl, ?_, Hp.out.symm, rfl, rfl⟩
            · exact Hh.out.1
            · rw [Htx.out, Hdg.out]
theorem rshow_any (person : ByteArray) (month : Int) (root : UInt64) (A B E : Option Addr) (ca cb ce n m ns : Nat) (rows : List RowD) (bl sel : List Int) (seed : ByteArray) (h i : Int) (er : Int) (her : Hid (showE person month root rows bl sel seed h i = er)) (w : World) (hT : DTabs w) (hA : Sl w w.heap.size 3 A n (rowsV rows)) (hB : Sl w w.heap.size 1 B m (intV bl)) (hE : Sl w w.heap.size 1 E ns (intV sel))
    (hn : rows.length = n) (hm : bl.length = m) (hns : sel.length = ns) (hnl : n ≤ maxLen) (hml : m ≤ maxLen) (hnsl : ns ≤ maxLen) (hp : person.size ≤ maxLen) (hs : ∀ x ∈ rows, x.l.size ≤ 70368744177000 ∧ x.r.size ≤ 70368744177000 ∧ I64 x.c) (hb : ∀ b ∈ bl, I64 b) (hsd : seed.size ≤ maxLen) :
    Calls Tryz.prog 7 #[.agg #[.string person, .int .i64 month, .slice A n ca, .slice B m cb, .int .u64 root.toNat], .slice E ns ce, .string seed, .int .i64 h, .int .i64 i] w (ShowP w person month root rows bl sel seed h i er) := by
  have hre := her.out
  unfold showE at hre
  cases hv : validB person month rows bl root with
  | false =>
    rw [if_neg (fun h => by rw [hv] at h; cases h.1)] at hre
    subst hre
    exact (rshow_invalid person month root A B E ca cb ce n m ns rows bl sel seed h i w hA hB hE hn hm hns hnl hml hnsl hp hs hb (Lib.hid hv)).mono fun e w' hh => none_left (by decide) hh
  | true =>
    cases hsl : selB sel (n : Int) with
    | false =>
      rw [if_neg (fun h => by rw [hn, hsl] at h; cases h.2.1)] at hre
      subst hre
      exact (rshow_unsel person month root A B E ca cb ce n m ns rows bl sel seed h i w hA hB hE hn hm hns hnl hml hnsl hp hs hb (Lib.hid hv) (Lib.hid hsl)).mono fun e w' hh => none_left (by decide) hh
    | true => exact rshow_main person month root A B E ca cb ce n m ns rows bl sel seed h i er w hT hA hB hE hn hm hns hnl hml hnsl hp hs hb (Lib.hid hv) (Lib.hid hsl) her hsd
end Go.Proofs.YtfjkmhbipkoefaaGreatDoor
