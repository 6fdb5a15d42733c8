/- The walk of payslip.Valid. -/
import Derived.Test.YtfjkmhbipkoefaaDoorQ09
import Derived.Test.YtfjkmhbipkoefaaDoorQ04
namespace Go.Proofs.YtfjkmhbipkoefaaDoor
open Go.RowKit Go.Shelf
set_option linter.unusedVariables false
set_option linter.unusedSimpArgs false
set_option maxRecDepth 100000
theorem fold_min (l : List Int) : ∀ a : Int, l.foldl min a = a ∨ l.foldl min a ∈ l := by
  induction l with
  | nil => intro a; exact .inl rfl
  | cons b l ih =>
    intro a
    rw [List.foldl_cons]
    rcases ih (min a b) with h | h
    · rw [h]
      rcases Int.le_total a b with hab | hab
      · exact .inl (Int.min_eq_left hab)
      · exact .inr (by rw [Int.min_eq_right hab]; exact List.mem_cons_self ..)
    · exact .inr (List.mem_cons_of_mem _ h)
theorem fold_max (l : List Int) : ∀ a : Int, l.foldl max a = a ∨ l.foldl max a ∈ l := by
  induction l with
  | nil => intro a; exact .inl rfl
  | cons b l ih =>
    intro a
    rw [List.foldl_cons]
    rcases ih (max a b) with h | h
    · rw [h]
      rcases Int.le_total a b with hab | hab
      · exact .inr (by rw [Int.max_eq_right hab]; exact List.mem_cons_self ..)
      · exact .inl (Int.max_eq_left hab)
    · exact .inr (List.mem_cons_of_mem _ h)
theorem minOf_mem {l : List Int} (h : 0 < l.length) : Lib.minOf l ∈ l := by
  cases l with
  | nil => exact absurd h (Nat.lt_irrefl 0)
  | cons a l =>
    rcases fold_min (a :: l) a with e | e
    · show (a :: l).foldl min a ∈ _
      rw [e]; exact List.mem_cons_self ..
    · exact e
theorem maxOf_mem {l : List Int} (h : 0 < l.length) : Lib.maxOf l ∈ l := by
  cases l with
  | nil => exact absurd h (Nat.lt_irrefl 0)
  | cons a l =>
    rcases fold_max (a :: l) a with e | e
    · show (a :: l).foldl max a ∈ _
      rw [e]; exact List.mem_cons_self ..
    · exact e
theorem okK_bad {rows : List RowD} {bl : List Int} {n : Nat} (hn : bl.length = n) {b : Int} (hb : b ∈ bl) (h : ¬ (0 ≤ b ∧ b < 1073741789)) : okK rows bl n = false := by
  obtain ⟨j, hj, rfl⟩ := List.getElem_of_mem hb
  refine List.all_eq_false.2 ⟨j, List.mem_range.2 (by omega), ?_⟩
  have e : bl.getD j 0 = bl[j] := by simp [List.getD, hj]
  rw [e]
  unfold comE
  rw [if_neg h]
  simp
def validB (person : ByteArray) (month : Int) (rows : List RowD) (bl : List Int) (root : UInt64) : Bool :=
  isNameB person && decide (0 ≤ month ∧ month ≤ 1199) && decide (1 ≤ rows.length ∧ rows.length ≤ 1024 ∧ bl.length = rows.length) && okK rows bl rows.length && (rootV (leafK rows bl rows.length) == root)
theorem checkE_in {n : Nat} (h : 1 ≤ n ∧ n ≤ 1024) : checkE n = 0 := by
  unfold checkE
  split
  · omega
  · split
    · omega
    · rfl
theorem rows_len (l : List RowD) : (rowsV l).length = l.length * 3 := flat_len rowV 3 (fun _ => rfl) l
theorem catB_le (l : List ByteArray) (h : ∀ s ∈ l, s.size ≤ 70368744177000) : ∀ s ∈ l, s.size ≤ 70368744177000 := h
theorem leafB_size {l : ByteArray} {c : Int} {r : ByteArray} (hl : l.size ≤ 70368744177000) (hr : r.size ≤ 70368744177000) (hc : I64 c) : (leafB l c r).size ≤ 140737488355328 := by
  have h1 := itoaB_size l.size (by omega) (by omega)
  have h2 := itoaB_size c hc.1 hc.2
  rw [leafB, catB_size]
  have e1 : colon.size = 1 := rfl
  have e2 : blank.size = 1 := rfl
  simp only [List.map_cons, List.map_nil, List.sum_cons, List.sum_nil, e1, e2]
  omega
theorem leafK_size {rows : List RowD} {bl : List Int} {n : Nat} (hn : n ≤ rows.length) (hs : ∀ x ∈ rows, x.l.size ≤ 70368744177000 ∧ x.r.size ≤ 70368744177000 ∧ I64 x.c) : ∀ s ∈ leafK rows bl n, s.size ≤ 140737488355328 := by
  intro s hs'
  obtain ⟨j, hj, rfl⟩ := List.mem_map.1 hs'
  have hj' := List.mem_range.1 hj
  have hjl : j < rows.length := by omega
  have e : rows.getD j default = rows[j] := by simp [List.getD, hjl]
  rw [e]
  have h := hs _ (List.getElem_mem hjl)
  have hb := comI_bd (rows[j].c % 1073741789) (bl.getD j 0)
  exact leafB_size h.1 h.2.1 ⟨by omega, by omega⟩
theorem leaves_at (A B : Option Addr) (ca cb n m : Nat) (rows : List RowD) (bl : List Int) (ok : Bool) (hok : Hid (okK rows bl n = ok)) (w : World) (hT : PTabs w) (hA : Sl w w.heap.size 3 A n (rowsV rows)) (hB : Sl w w.heap.size 1 B m (intV bl))
    (hn : rows.length = n) (hm : bl.length = m) (hnm : n ≤ m) (hnl : n ≤ 1000000) (hml : m ≤ maxLen) (hs : ∀ x ∈ rows, x.l.size ≤ 70368744177000 ∧ x.r.size ≤ 70368744177000 ∧ I64 x.c) (hb : ∀ b ∈ bl, I64 b) :
    Calls Tryd.prog 28 #[.slice A n ca, .slice B m cb] w fun e w' => ∃ C cc, e = .returned (.tuple #[.slice C (if ok = true then n else 0) cc, .bool ok]) ∧ Sl w' w'.heap.size 1 C (if ok = true then n else 0) (strV (if ok = true then leafK rows bl n else [])) ∧ Below w.heap.size w w' := by
  refine (psleaves_any A B ca cb n m rows bl ok hok w hT hA hB hn hm hnm hnl hml hs hb).mono ?_
  rintro e w' ⟨v, rfl, hown, hbel⟩
  obtain ⟨C, cc, rfl, hC⟩ := own_slice hown
  exact ⟨C, cc, rfl, hC, hbel⟩
set_option maxHeartbeats 8000000 in
theorem valid35_any (person : ByteArray) (month : Int) (A B : Option Addr) (ca cb n m : Nat) (rows : List RowD) (bl : List Int) (root : UInt64) (v : Bool) (hv : Hid (validB person month rows bl root = v)) (w : World) (hT : PTabs w) (hA : Sl w w.heap.size 3 A n (rowsV rows)) (hB : Sl w w.heap.size 1 B m (intV bl))
    (hn : rows.length = n) (hm : bl.length = m) (hnl : n ≤ maxLen) (hml : m ≤ maxLen) (hp : person.size ≤ maxLen) (hs : ∀ x ∈ rows, x.l.size ≤ 70368744177000 ∧ x.r.size ≤ 70368744177000 ∧ I64 x.c) (hb : ∀ b ∈ bl, I64 b) :
    Calls Tryd.prog 14 #[.agg #[.string person, .int .i64 month, .slice A n ca, .slice B m cb, .int .u64 root.toNat]] w fun e w' => e = .returned (.bool v) ∧ Below w.heap.size w w' := by
  have HA := Lib.hid hA
  have HB := Lib.hid hB
  have Hn := Lib.hid hn
  have Hm := Lib.hid hm
  have Hs := Lib.hid hs
  have Hb := Lib.hid hb
  unfold maxLen at hml hnl hp
  obtain ⟨nb, hnb⟩ : ∃ b, isNameB person = b := ⟨_, rfl⟩
  have hv' : (nb && decide (0 ≤ month ∧ month ≤ 1199) && decide (1 ≤ n ∧ n ≤ 1024 ∧ m = n) && okK rows bl n && (rootV (leafK rows bl n) == root)) = v := by
    have := hv.out
    unfold validB at this
    rw [hnb, hn, hm] at this
    exact this
  have Hv := Lib.hid hv'
  have Hnb := Lib.hid hnb
  clear hA hB hn hm hs hb hv hv' hnb
  cases nb with
  | false =>
    have hvf : v = false := by rw [← Hv.out]; rfl
    subst hvf
    clear Hv
    go_enter Tryd.func14, Tryd.ntmps14
    go_wp2_with fail
    refine (isName_any person _ (by unfold maxLen; omega)).mono ?_
    rintro e w' ⟨rfl, rfl⟩
    rw [Hnb.out]
    go_wp2_with fail
    go_ret
    exact ⟨rfl, bal (Below.refl _ _) _⟩
  | true =>
    by_cases hm0 : 0 ≤ month
    · have hd0 : decide (month < 0) = false := decide_eq_false (by omega)
      by_cases hm1 : month ≤ 1199
      · have hd1 : decide (1199 < month) = false := decide_eq_false (by omega)
        by_cases hn1 : 1 ≤ n
        · have hd2 : decide ((n : Int) < 1) = false := decide_eq_false (by omega)
          by_cases hn2 : n ≤ 1024
          · have hd3 : decide ((1024 : Int) < (n : Int)) = false := decide_eq_false (by omega)
            by_cases hmn : m = n
            · subst hmn
              have hd4 : ((m : Int) != (m : Int)) = false := by simp
              have Hv2 : Hid ((okK rows bl m && (rootV (leafK rows bl m) == root)) = v) := Lib.hid (by have := Hv.out; rw [decide_eq_true ⟨hm0, hm1⟩, decide_eq_true ⟨hn1, hn2, rfl⟩, Bool.true_and, Bool.true_and, Bool.true_and] at this; exact this)
              obtain ⟨b2, o2, rfl, hb2, hc2⟩ := HB.out.2 (by omega)
              obtain ⟨mn, hmn⟩ : ∃ x, Lib.minOf (bl.take m) = x := ⟨_, rfl⟩
              obtain ⟨mx, hmx⟩ : ∃ x, Lib.maxOf (bl.take m) = x := ⟨_, rfl⟩
              have htk : bl.take m = bl := List.take_of_length_le (by rw [Hm.out]; exact Nat.le_refl _)
              have hmnm : mn ∈ bl := by rw [← hmn, htk]; exact minOf_mem (by rw [Hm.out]; omega)
              have hmxm : mx ∈ bl := by rw [← hmx, htk]; exact maxOf_mem (by rw [Hm.out]; omega)
              have Hmn := Lib.hid hmn
              have Hmx := Lib.hid hmx
              have Hc2 := Lib.hid hc2
              have HNM := Lib.hid (And.intro hmnm hmxm)
              clear hmn hmx htk hc2 Hv hmnm hmxm
              by_cases hlo : 0 ≤ mn
              · have hdl : decide (mn < 0) = false := decide_eq_false (by omega)
                by_cases hhi : mx < 1073741789
                · have hdh : decide (1073741789 ≤ mx) = false := decide_eq_false (by omega)
                  go_enter Tryd.func14, Tryd.ntmps14
                  go_wp2_with fail
                  refine (isName_any person _ (by unfold maxLen; omega)).mono ?_
                  rintro e w' ⟨rfl, rfl⟩
                  rw [Hnb.out]
                  go_upto_region 5 with fail
                  obtain ⟨W, hW⟩ : ∃ W, W = w.alloc (.cells #[.string person, .int .i64 month, .slice A m ca, .slice (some ⟨b2, o2, none⟩) m cb, .int .u64 root.toNat] 43) := ⟨_, rfl⟩
                  rw [← hW]
                  have g0 : W.heap[w.heap.size]? = some (.cells #[.string person, .int .i64 month, .slice A m ca, .slice (some ⟨b2, o2, none⟩) m cb, .int .u64 root.toNat] 43 (0, 0)) := by rw [hW]; exact World.alloc_heap_new _ _
                  have hBW : Below w.heap.size w W := by rw [hW]; exact bal (Below.refl _ _) _
                  have hszW : w.heap.size < W.heap.size := by rw [hW]; simp
                  clear hW
                  have c2 : W.cell? ⟨w.heap.size, 2, none⟩ = some (.slice A m ca) := by rw [Lib.cell_of_heap g0]; rfl
                  have c3 : W.cell? ⟨w.heap.size, 3, none⟩ = some (.slice (some ⟨b2, o2, none⟩) m cb) := by rw [Lib.cell_of_heap g0]; rfl
                  have G0 := Lib.hid g0
                  clear g0
                  have hmin := Tryd.slices_Min_int b2 o2 m cb bl W (by omega) (by rw [Hm.out]; exact Nat.le_refl _) (by omega) (fun j hj => (hBW.cell (p := ⟨b2, o2 + j, none⟩) hb2).trans (Hc2.out j _ (intV_get bl j hj)))
                  have hmax := Tryd.slices_Max_int b2 o2 m cb bl W (by omega) (by rw [Hm.out]; exact Nat.le_refl _) (by omega) (fun j hj => (hBW.cell (p := ⟨b2, o2 + j, none⟩) hb2).trans (Hc2.out j _ (intV_get bl j hj)))
                  rw [Hmn.out] at hmin
                  rw [Hmx.out] at hmax
                  have HMI := Lib.hid hmin
                  have HMA := Lib.hid hmax
                  clear hmin hmax
                  go_wp2_with fail
                  refine HMI.out.mono ?_
                  rintro e w' ⟨rfl, hw'⟩
                  obtain rfl := hw'.symm
                  go_wp2_with fail
                  refine HMA.out.mono ?_
                  rintro e w'' ⟨rfl, hw''⟩
                  obtain rfl := hw''.symm
                  obtain ⟨ok, hok⟩ : ∃ b, okK rows bl m = b := ⟨_, rfl⟩
                  have Hv3 := Hv2.out
                  rw [hok] at Hv3
                  have HV3 := Lib.hid Hv3
                  have Hok := Lib.hid hok
                  clear hok Hv3
                  have HSB : Hid (Sl W W.heap.size 1 (some ⟨b2, o2, none⟩) m (intV bl)) := Lib.hid (HB.out.go hBW)
                  go_wp2_with fail
                  refine (leaves_at A (some ⟨b2, o2, none⟩) ca cb m m rows bl ok Hok W (hT.go hBW) (HA.out.go hBW) HSB.out Hn.out Hm.out (Nat.le_refl _) (by omega) (by unfold maxLen; omega) Hs.out Hb.out).mono ?_
                  rintro e w1 ⟨C, cc, rfl, hC, hB1⟩
                  have hBw1 := bgo hBW hB1
                  have c4 : w1.cell? ⟨w.heap.size, 4, none⟩ = some (.int .u64 root.toNat) := by rw [Lib.cell_of_heap ((hB1.block _ hszW).trans G0.out)]; rfl
                  have hs1 : w.heap.size < w1.heap.size := Nat.lt_of_lt_of_le hszW hB1.size
                  cases ok with
                  | false =>
                    have hvf : Hid (v = false) := Lib.hid (by rw [← HV3.out]; rfl)
                    clear c2 c3 c4
                    go_wp2_with fail
                    go_ret
                    exact ⟨by rw [hvf.out]; rfl, hBw1⟩
                  | true =>
                    rw [if_pos rfl] at hC
                    rw [if_pos rfl] at hC ⊢
                    obtain ⟨rd, hrd⟩ : ∃ d, rootV (leafK rows bl m) = d := ⟨_, rfl⟩
                    have hvr : Hid ((rd == root) = v) := Lib.hid (by rw [← hrd]; have := HV3.out; rwa [Bool.true_and] at this)
                    have HC := Lib.hid hC
                    have Hrd := Lib.hid hrd
                    have hck : checkE m = 0 := checkE_in ⟨hn1, hn2⟩
                    have Hck := Lib.hid hck
                    have G1 := Lib.hid ((hB1.block _ hszW).trans G0.out)
                    clear hC hrd hck c2 c3 c4
                    go_wp2_with fail
                    refine (root_at C cc m (leafK rows bl m) rd 0 w1 (leafK_len _ _ _) Hrd.out Hck.out HC.out (leafK_size (by rw [Hn.out]; exact Nat.le_refl _) Hs.out) (by omega)).mono ?_
                    rintro e w2 ⟨rfl, hB2⟩
                    have c4 : w2.cell? ⟨w.heap.size, 4, none⟩ = some (.int .u64 root.toNat) := by rw [Lib.cell_of_heap ((hB2.block _ hs1).trans G1.out)]; rfl
                    have hbeq : (((rd.toNat : Nat) : Int) == ((root.toNat : Nat) : Int)) = v := by
                      rw [← hvr.out, Bool.eq_iff_iff]
                      simp only [beq_iff_eq]
                      constructor
                      · intro h; exact UInt64.toNat_inj.1 (by omega)
                      · intro h; rw [h]
                    have Hbq := Lib.hid hbeq
                    have hBw2 := bgo hBw1 hB2
                    clear hbeq
                    cases v with
                    | false =>
                      have hq := Hbq.out
                      go_wp2_with fail
                      go_ret
                      exact ⟨rfl, hBw2⟩
                    | true =>
                      have hq := Hbq.out
                      go_wp2_with fail
                      go_ret
                      exact ⟨rfl, hBw2⟩
                · have hvf : v = false := by rw [← Hv2.out, okK_bad Hm.out HNM.out.2 (fun h => hhi h.2)]; rfl
                  subst hvf
                  have hdh : decide (1073741789 ≤ mx) = true := decide_eq_true (by omega)
                  clear Hv2 hhi
                  go_enter Tryd.func14, Tryd.ntmps14
                  go_wp2_with fail
                  refine (isName_any person _ (by unfold maxLen; omega)).mono ?_
                  rintro e w' ⟨rfl, rfl⟩
                  rw [Hnb.out]
                  go_upto_region 5 with fail
                  obtain ⟨W, hW⟩ : ∃ W, W = w.alloc (.cells #[.string person, .int .i64 month, .slice A m ca, .slice (some ⟨b2, o2, none⟩) m cb, .int .u64 root.toNat] 43) := ⟨_, rfl⟩
                  rw [← hW]
                  have g0 : W.heap[w.heap.size]? = some (.cells #[.string person, .int .i64 month, .slice A m ca, .slice (some ⟨b2, o2, none⟩) m cb, .int .u64 root.toNat] 43 (0, 0)) := by rw [hW]; exact World.alloc_heap_new _ _
                  have hBW : Below w.heap.size w W := by rw [hW]; exact bal (Below.refl _ _) _
                  have hszW : w.heap.size < W.heap.size := by rw [hW]; simp
                  clear hW
                  have c2 : W.cell? ⟨w.heap.size, 2, none⟩ = some (.slice A m ca) := by rw [Lib.cell_of_heap g0]; rfl
                  have c3 : W.cell? ⟨w.heap.size, 3, none⟩ = some (.slice (some ⟨b2, o2, none⟩) m cb) := by rw [Lib.cell_of_heap g0]; rfl
                  have G0 := Lib.hid g0
                  clear g0
                  have hmin := Tryd.slices_Min_int b2 o2 m cb bl W (by omega) (by rw [Hm.out]; exact Nat.le_refl _) (by omega) (fun j hj => (hBW.cell (p := ⟨b2, o2 + j, none⟩) hb2).trans (Hc2.out j _ (intV_get bl j hj)))
                  have hmax := Tryd.slices_Max_int b2 o2 m cb bl W (by omega) (by rw [Hm.out]; exact Nat.le_refl _) (by omega) (fun j hj => (hBW.cell (p := ⟨b2, o2 + j, none⟩) hb2).trans (Hc2.out j _ (intV_get bl j hj)))
                  rw [Hmn.out] at hmin
                  rw [Hmx.out] at hmax
                  have HMI := Lib.hid hmin
                  have HMA := Lib.hid hmax
                  clear hmin hmax
                  go_wp2_with fail
                  refine HMI.out.mono ?_
                  rintro e w' ⟨rfl, hw'⟩
                  obtain rfl := hw'.symm
                  go_wp2_with fail
                  refine HMA.out.mono ?_
                  rintro e w'' ⟨rfl, hw''⟩
                  obtain rfl := hw''.symm
                  go_wp2_with fail
                  go_ret
                  exact ⟨rfl, hBW⟩
              · have hvf : v = false := by rw [← Hv2.out, okK_bad Hm.out HNM.out.1 (fun h => hlo h.1)]; rfl
                subst hvf
                have hdl : decide (mn < 0) = true := decide_eq_true (by omega)
                clear Hv2 hlo
                go_enter Tryd.func14, Tryd.ntmps14
                go_wp2_with fail
                refine (isName_any person _ (by unfold maxLen; omega)).mono ?_
                rintro e w' ⟨rfl, rfl⟩
                rw [Hnb.out]
                go_upto_region 5 with fail
                obtain ⟨W, hW⟩ : ∃ W, W = w.alloc (.cells #[.string person, .int .i64 month, .slice A m ca, .slice (some ⟨b2, o2, none⟩) m cb, .int .u64 root.toNat] 43) := ⟨_, rfl⟩
                rw [← hW]
                have g0 : W.heap[w.heap.size]? = some (.cells #[.string person, .int .i64 month, .slice A m ca, .slice (some ⟨b2, o2, none⟩) m cb, .int .u64 root.toNat] 43 (0, 0)) := by rw [hW]; exact World.alloc_heap_new _ _
                have hBW : Below w.heap.size w W := by rw [hW]; exact bal (Below.refl _ _) _
                have hszW : w.heap.size < W.heap.size := by rw [hW]; simp
                clear hW
                have c2 : W.cell? ⟨w.heap.size, 2, none⟩ = some (.slice A m ca) := by rw [Lib.cell_of_heap g0]; rfl
                have c3 : W.cell? ⟨w.heap.size, 3, none⟩ = some (.slice (some ⟨b2, o2, none⟩) m cb) := by rw [Lib.cell_of_heap g0]; rfl
                have G0 := Lib.hid g0
                clear g0
                have hmin := Tryd.slices_Min_int b2 o2 m cb bl W (by omega) (by rw [Hm.out]; exact Nat.le_refl _) (by omega) (fun j hj => (hBW.cell (p := ⟨b2, o2 + j, none⟩) hb2).trans (Hc2.out j _ (intV_get bl j hj)))
                have hmax := Tryd.slices_Max_int b2 o2 m cb bl W (by omega) (by rw [Hm.out]; exact Nat.le_refl _) (by omega) (fun j hj => (hBW.cell (p := ⟨b2, o2 + j, none⟩) hb2).trans (Hc2.out j _ (intV_get bl j hj)))
                rw [Hmn.out] at hmin
                rw [Hmx.out] at hmax
                have HMI := Lib.hid hmin
                have HMA := Lib.hid hmax
                clear hmin hmax
                go_wp2_with fail
                refine HMI.out.mono ?_
                rintro e w' ⟨rfl, hw'⟩
                obtain rfl := hw'.symm
                go_wp2_with fail
                go_ret
                exact ⟨rfl, hBW⟩
            · have hne : ((m : Int) != (n : Int)) = true := by simp; omega
              have hvf : v = false := by rw [← Hv.out]; simp [hmn]
              subst hvf
              clear Hv hmn
              go_enter Tryd.func14, Tryd.ntmps14
              go_wp2_with fail
              refine (isName_any person _ (by unfold maxLen; omega)).mono ?_
              rintro e w' ⟨rfl, rfl⟩
              rw [Hnb.out]
              go_wp2_with fail
              go_ret
              exact ⟨rfl, bal (Below.refl _ _) _⟩
          · have hd3 : decide ((1024 : Int) < (n : Int)) = true := decide_eq_true (by omega)
            have hvf : v = false := by rw [← Hv.out]; simp [hn2]
            subst hvf
            clear Hv hn2
            go_enter Tryd.func14, Tryd.ntmps14
            go_wp2_with fail
            refine (isName_any person _ (by unfold maxLen; omega)).mono ?_
            rintro e w' ⟨rfl, rfl⟩
            rw [Hnb.out]
            go_wp2_with fail
            go_ret
            exact ⟨rfl, bal (Below.refl _ _) _⟩
        · have hd2 : decide ((n : Int) < 1) = true := decide_eq_true (by omega)
          have hvf : v = false := by rw [← Hv.out]; simp [hn1]
          subst hvf
          clear Hv hn1
          go_enter Tryd.func14, Tryd.ntmps14
          go_wp2_with fail
          refine (isName_any person _ (by unfold maxLen; omega)).mono ?_
          rintro e w' ⟨rfl, rfl⟩
          rw [Hnb.out]
          go_wp2_with fail
          go_ret
          exact ⟨rfl, bal (Below.refl _ _) _⟩
      · have hd1 : decide (1199 < month) = true := decide_eq_true (by omega)
        have hvf : v = false := by rw [← Hv.out]; simp [hm1]
        subst hvf
        clear Hv hm1
        go_enter Tryd.func14, Tryd.ntmps14
        go_wp2_with fail
        refine (isName_any person _ (by unfold maxLen; omega)).mono ?_
        rintro e w' ⟨rfl, rfl⟩
        rw [Hnb.out]
        go_wp2_with fail
        go_ret
        exact ⟨rfl, bal (Below.refl _ _) _⟩
    · have hd0 : decide (month < 0) = true := decide_eq_true (by omega)
      have hvf : v = false := by rw [← Hv.out]; simp [hm0]
      subst hvf
      clear Hv hm0
      go_enter Tryd.func14, Tryd.ntmps14
      go_wp2_with fail
      refine (isName_any person _ (by unfold maxLen; omega)).mono ?_
      rintro e w' ⟨rfl, rfl⟩
      rw [Hnb.out]
      go_wp2_with fail
      go_ret
      exact ⟨rfl, bal (Below.refl _ _) _⟩
end Go.Proofs.YtfjkmhbipkoefaaDoor
