/- The walk of payslip.Valid. Plain definitions of layer 25: steps of chains, digits, secrets, leaves; and the laws about them. The walks of package digest, third part: Text. -/
import Derived.Test.YtfjkmhbipkoefaaGreatDoorQ08
import Derived.Test.YtfjkmhbipkoefaaGreatDoorQ05
import Derived.Test.YtfjkmhbipkoefaaGreatDoorQ02
import Derived.Lib.ItoaLen
namespace Go.Proofs.YtfjkmhbipkoefaaGreatDoor
open Go.RowKit Go.Shelf
set_option linter.unusedVariables false
set_option linter.unusedSimpArgs false
set_option maxRecDepth 100000
theorem fold_min (l : List Int) : ∀ a : Int, l.foldl min a = a ∨ l.foldl min a ∈ l := by
  induction l with
  | nil => intro a; exact .inl rfl
  | cons b l ih =>
    intro a
    rw [List.foldl_cons]
    rcases ih (min a b) with h | h
    · rw [h]
      rcases Int.le_total a b with hab | hab
      · exact .inl (Int.min_eq_left hab)
      · exact .inr (by rw [Int.min_eq_right hab]; exact List.mem_cons_self ..)
    · exact .inr (List.mem_cons_of_mem _ h)
theorem fold_max (l : List Int) : ∀ a : Int, l.foldl max a = a ∨ l.foldl max a ∈ l := by
  induction l with
  | nil => intro a; exact .inl rfl
  | cons b l ih =>
    intro a
    rw [List.foldl_cons]
    rcases ih (max a b) with h | h
    · rw [h]
      rcases Int.le_total a b with hab | hab
      · exact .inr (by rw [Int.max_eq_right hab]; exact List.mem_cons_self ..)
      · exact .inl (Int.max_eq_left hab)
    · exact .inr (List.mem_cons_of_mem _ h)
theorem minOf_mem {l : List Int} (h : 0 < l.length) : Lib.minOf l ∈ l := by
  cases l with
  | nil => exact absurd h (Nat.lt_irrefl 0)
  | cons a l =>
    rcases fold_min (a :: l) a with e | e
    · show (a :: l).foldl min a ∈ _
      rw [e]; exact List.mem_cons_self ..
    · exact e
theorem maxOf_mem {l : List Int} (h : 0 < l.length) : Lib.maxOf l ∈ l := by
  cases l with
  | nil => exact absurd h (Nat.lt_irrefl 0)
  | cons a l =>
    rcases fold_max (a :: l) a with e | e
    · show (a :: l).foldl max a ∈ _
      rw [e]; exact List.mem_cons_self ..
    · exact e
theorem okK_bad {rows : List RowD} {bl : List Int} {n : Nat} (hn : bl.length = n) {b : Int} (hb : b ∈ bl) (h : ¬ (0 ≤ b ∧ b < 1073741789)) : okK rows bl n = false := by
  obtain ⟨j, hj, rfl⟩ := List.getElem_of_mem hb
  refine List.all_eq_false.2 ⟨j, List.mem_range.2 (by omega), ?_⟩
  have e : bl.getD j 0 = bl[j] := by simp [List.getD, hj]
  rw [e]
  unfold comE
  rw [if_neg h]
  simp
def validB (person : ByteArray) (month : Int) (rows : List RowD) (bl : List Int) (root : UInt64) : Bool :=
  isNameB person && decide (0 ≤ month ∧ month ≤ 1199) && decide (1 ≤ rows.length ∧ rows.length ≤ 1024 ∧ bl.length = rows.length) && okK rows bl rows.length && (rootV (leafK rows bl rows.length) == root)
theorem checkE_in {n : Nat} (h : 1 ≤ n ∧ n ≤ 1024) : checkE n = 0 := by
  unfold checkE
  split
  · omega
  · split
    · omega
    · rfl
theorem rows_len (l : List RowD) : (rowsV l).length = l.length * 3 := flat_len rowV 3 (fun _ => rfl) l
theorem catB_le (l : List ByteArray) (h : ∀ s ∈ l, s.size ≤ 70368744177000) : ∀ s ∈ l, s.size ≤ 70368744177000 := h
theorem leafB_size {l : ByteArray} {c : Int} {r : ByteArray} (hl : l.size ≤ 70368744177000) (hr : r.size ≤ 70368744177000) (hc : I64 c) : (leafB l c r).size ≤ 140737488355328 := by
  have h1 := itoaB_size l.size (by omega) (by omega)
  have h2 := itoaB_size c hc.1 hc.2
  rw [leafB, catB_size]
  have e1 : colon.size = 1 := rfl
  have e2 : blank.size = 1 := rfl
  simp only [List.map_cons, List.map_nil, List.sum_cons, List.sum_nil, e1, e2]
  omega
theorem leafK_size {rows : List RowD} {bl : List Int} {n : Nat} (hn : n ≤ rows.length) (hs : ∀ x ∈ rows, x.l.size ≤ 70368744177000 ∧ x.r.size ≤ 70368744177000 ∧ I64 x.c) : ∀ s ∈ leafK rows bl n, s.size ≤ 140737488355328 := by
  intro s hs'
  obtain ⟨j, hj, rfl⟩ := List.mem_map.1 hs'
  have hj' := List.mem_range.1 hj
  have hjl : j < rows.length := by omega
  have e : rows.getD j default = rows[j] := by simp [List.getD, hjl]
  rw [e]
  have h := hs _ (List.getElem_mem hjl)
  have hb := comI_bd (rows[j].c % 1073741789) (bl.getD j 0)
  exact leafB_size h.1 h.2.1 ⟨by omega, by omega⟩
theorem leaves_at (A B : Option Addr) (ca cb n m : Nat) (rows : List RowD) (bl : List Int) (ok : Bool) (hok : Hid (okK rows bl n = ok)) (w : World) (hT : PTabs w) (hA : Sl w w.heap.size 3 A n (rowsV rows)) (hB : Sl w w.heap.size 1 B m (intV bl))
    (hn : rows.length = n) (hm : bl.length = m) (hnm : n ≤ m) (hnl : n ≤ 1000000) (hml : m ≤ maxLen) (hs : ∀ x ∈ rows, x.l.size ≤ 70368744177000 ∧ x.r.size ≤ 70368744177000 ∧ I64 x.c) (hb : ∀ b ∈ bl, I64 b) :
    Calls Tryz.prog 44 #[.slice A n ca, .slice B m cb] w fun e w' => ∃ C cc, e = .returned (.tuple #[.slice C (if ok = true then n else 0) cc, .bool ok]) ∧ Sl w' w'.heap.size 1 C (if ok = true then n else 0) (strV (if ok = true then leafK rows bl n else [])) ∧ Below w.heap.size w w' := by
  refine (psleaves_any A B ca cb n m rows bl ok hok w hT hA hB hn hm hnm hnl hml hs hb).mono ?_
  rintro e w' ⟨v, rfl, hown, hbel⟩
  obtain ⟨C, cc, rfl, hC⟩ := own_slice hown
  exact ⟨C, cc, rfl, hC, hbel⟩
set_option maxHeartbeats 8000000 in
theorem valid35_any (person : ByteArray) (month : Int) (A B : Option Addr) (ca cb n m : Nat) (rows : List RowD) (bl : List Int) (root : UInt64) (v : Bool) (hv : Hid (validB person month rows bl root = v)) (w : World) (hT : PTabs w) (hA : Sl w w.heap.size 3 A n (rowsV rows)) (hB : Sl w w.heap.size 1 B m (intV bl))
    (hn : rows.length = n) (hm : bl.length = m) (hnl : n ≤ maxLen) (hml : m ≤ maxLen) (hp : person.size ≤ maxLen) (hs : ∀ x ∈ rows, x.l.size ≤ 70368744177000 ∧ x.r.size ≤ 70368744177000 ∧ I64 x.c) (hb : ∀ b ∈ bl, I64 b) :
    Calls Tryz.prog 12 #[.agg #[.string person, .int .i64 month, .slice A n ca, .slice B m cb, .int .u64 root.toNat]] w fun e w' => e = .returned (.bool v) ∧ Below w.heap.size w w' := by
  have HA := Lib.hid hA
  have HB := Lib.hid hB
  have Hn := Lib.hid hn
  have Hm := Lib.hid hm
  have Hs := Lib.hid hs
  have Hb := Lib.hid hb
  unfold maxLen at hml hnl hp
  obtain ⟨nb, hnb⟩ : ∃ b, isNameB person = b := ⟨_, rfl⟩
  have hv' : (nb && decide (0 ≤ month ∧ month ≤ 1199) && decide (1 ≤ n ∧ n ≤ 1024 ∧ m = n) && okK rows bl n && (rootV (leafK rows bl n) == root)) = v := by
    have := hv.out
    unfold validB at this
    rw [hnb, hn, hm] at this
    exact this
  have Hv := Lib.hid hv'
  have Hnb := Lib.hid hnb
  clear hA hB hn hm hs hb hv hv' hnb
  cases nb with
  | false =>
    have hvf : v = false := by rw [← Hv.out]; rfl
    subst hvf
    clear Hv
    go_enter Tryz.func12, Tryz.ntmps12
    go_wp2_with fail
    refine (isName_any person _ (by unfold maxLen; omega)).mono ?_
    rintro e w' ⟨rfl, rfl⟩
    rw [Hnb.out]
    go_wp2_with fail
    go_ret
    exact ⟨rfl, bal (Below.refl _ _) _⟩
  | true =>
    by_cases hm0 : 0 ≤ month
    · have hd0 : decide (month < 0) = false := decide_eq_false (by omega)
      by_cases hm1 : month ≤ 1199
      · have hd1 : decide (1199 < month) = false := decide_eq_false (by omega)
        by_cases hn1 : 1 ≤ n
        · have hd2 : decide ((n : Int) < 1) = false := decide_eq_false (by omega)
          by_cases hn2 : n ≤ 1024
          · have hd3 : decide ((1024 : Int) < (n : Int)) = false := decide_eq_false (by omega)
            by_cases hmn : m = n
            · subst hmn
              have hd4 : ((m : Int) != (m : Int)) = false := by simp
              have Hv2 : Hid ((okK rows bl m && (rootV (leafK rows bl m) == root)) = v) := Lib.hid (by have := Hv.out; rw [decide_eq_true ⟨hm0, hm1⟩, decide_eq_true ⟨hn1, hn2, rfl⟩, Bool.true_and, Bool.true_and, Bool.true_and] at this; exact this)
              obtain ⟨b2, o2, rfl, hb2, hc2⟩ := HB.out.2 (by omega)
              obtain ⟨mn, hmn⟩ : ∃ x, Lib.minOf (bl.take m) = x := ⟨_, rfl⟩
              obtain ⟨mx, hmx⟩ : ∃ x, Lib.maxOf (bl.take m) = x := ⟨_, rfl⟩
              have htk : bl.take m = bl := List.take_of_length_le (by rw [Hm.out]; exact Nat.le_refl _)
              have hmnm : mn ∈ bl := by rw [← hmn, htk]; exact minOf_mem (by rw [Hm.out]; omega)
              have hmxm : mx ∈ bl := by rw [← hmx, htk]; exact maxOf_mem (by rw [Hm.out]; omega)
              have Hmn := Lib.hid hmn
              have Hmx := Lib.hid hmx
              have Hc2 := Lib.hid hc2
              have HNM := Lib.hid (And.intro hmnm hmxm)
              clear hmn hmx htk hc2 Hv hmnm hmxm
              by_cases hlo : 0 ≤ mn
              · have hdl : decide (mn < 0) = false := decide_eq_false (by omega)
                by_cases hhi : mx < 1073741789
                · have hdh : decide (1073741789 ≤ mx) = false := decide_eq_false (by omega)
                  go_enter Tryz.func12, Tryz.ntmps12
                  go_wp2_with fail
                  refine (isName_any person _ (by unfold maxLen; omega)).mono ?_
                  rintro e w' ⟨rfl, rfl⟩
                  rw [Hnb.out]
                  go_upto_region 5 with fail
                  obtain ⟨W, hW⟩ : ∃ W, W = w.alloc (.cells #[.string person, .int .i64 month, .slice A m ca, .slice (some ⟨b2, o2, none⟩) m cb, .int .u64 root.toNat] 27) := ⟨_, rfl⟩
                  rw [← hW]
                  have g0 : W.heap[w.heap.size]? = some (.cells #[.string person, .int .i64 month, .slice A m ca, .slice (some ⟨b2, o2, none⟩) m cb, .int .u64 root.toNat] 27 (0, 0)) := by rw [hW]; exact World.alloc_heap_new _ _
                  have hBW : Below w.heap.size w W := by rw [hW]; exact bal (Below.refl _ _) _
                  have hszW : w.heap.size < W.heap.size := by rw [hW]; simp
                  clear hW
                  have c2 : W.cell? ⟨w.heap.size, 2, none⟩ = some (.slice A m ca) := by rw [Lib.cell_of_heap g0]; rfl
                  have c3 : W.cell? ⟨w.heap.size, 3, none⟩ = some (.slice (some ⟨b2, o2, none⟩) m cb) := by rw [Lib.cell_of_heap g0]; rfl
                  have G0 := Lib.hid g0
                  clear g0
                  have hmin := Tryz.slices_Min_int b2 o2 m cb bl W (by omega) (by rw [Hm.out]; exact Nat.le_refl _) (by omega) (fun j hj => (hBW.cell (p := ⟨b2, o2 + j, none⟩) hb2).trans (Hc2.out j _ (intV_get bl j hj)))
                  have hmax := Tryz.slices_Max_int b2 o2 m cb bl W (by omega) (by rw [Hm.out]; exact Nat.le_refl _) (by omega) (fun j hj => (hBW.cell (p := ⟨b2, o2 + j, none⟩) hb2).trans (Hc2.out j _ (intV_get bl j hj)))
                  rw [Hmn.out] at hmin
                  rw [Hmx.out] at hmax
                  have HMI := Lib.hid hmin
                  have HMA := Lib.hid hmax
                  clear hmin hmax
                  go_wp2_with fail
                  refine HMI.out.mono ?_
                  rintro e w' ⟨rfl, hw'⟩
                  obtain rfl := hw'.symm
                  go_wp2_with fail
                  refine HMA.out.mono ?_
                  rintro e w'' ⟨rfl, hw''⟩
                  obtain rfl := hw''.symm
                  obtain ⟨ok, hok⟩ : ∃ b, okK rows bl m = b := ⟨_, rfl⟩
                  have Hv3 := Hv2.out
                  rw [hok] at Hv3
                  have HV3 := Lib.hid Hv3
                  have Hok := Lib.hid hok
                  clear hok Hv3
                  have HSB : Hid (Sl W W.heap.size 1 (some ⟨b2, o2, none⟩) m (intV bl)) := Lib.hid (HB.out.go hBW)
                  go_wp2_with fail
                  refine (leaves_at A (some ⟨b2, o2, none⟩) ca cb m m rows bl ok Hok W (hT.go hBW) (HA.out.go hBW) HSB.out Hn.out Hm.out (Nat.le_refl _) (by omega) (by unfold maxLen; omega) Hs.out Hb.out).mono ?_
                  rintro e w1 ⟨C, cc, rfl, hC, hB1⟩
                  have hBw1 := bgo hBW hB1
                  have c4 : w1.cell? ⟨w.heap.size, 4, none⟩ = some (.int .u64 root.toNat) := by rw [Lib.cell_of_heap ((hB1.block _ hszW).trans G0.out)]; rfl
                  have hs1 : w.heap.size < w1.heap.size := Nat.lt_of_lt_of_le hszW hB1.size
                  cases ok with
                  | false =>
                    have hvf : Hid (v = false) := Lib.hid (by rw [← HV3.out]; rfl)
                    clear c2 c3 c4
                    go_wp2_with fail
                    go_ret
                    exact ⟨by rw [hvf.out]; rfl, hBw1⟩
                  | true =>
                    rw [if_pos rfl] at hC
                    rw [if_pos rfl] at hC ⊢
                    obtain ⟨rd, hrd⟩ : ∃ d, rootV (leafK rows bl m) = d := ⟨_, rfl⟩
                    have hvr : Hid ((rd == root) = v) := Lib.hid (by rw [← hrd]; have := HV3.out; rwa [Bool.true_and] at this)
                    have HC := Lib.hid hC
                    have Hrd := Lib.hid hrd
                    have hck : checkE m = 0 := checkE_in ⟨hn1, hn2⟩
                    have Hck := Lib.hid hck
                    have G1 := Lib.hid ((hB1.block _ hszW).trans G0.out)
                    clear hC hrd hck c2 c3 c4
                    go_wp2_with fail
                    refine (root_at C cc m (leafK rows bl m) rd 0 w1 (leafK_len _ _ _) Hrd.out Hck.out HC.out (leafK_size (by rw [Hn.out]; exact Nat.le_refl _) Hs.out) (by omega)).mono ?_
                    rintro e w2 ⟨rfl, hB2⟩
                    have c4 : w2.cell? ⟨w.heap.size, 4, none⟩ = some (.int .u64 root.toNat) := by rw [Lib.cell_of_heap ((hB2.block _ hs1).trans G1.out)]; rfl
                    have hbeq : (((rd.toNat : Nat) : Int) == ((root.toNat : Nat) : Int)) = v := by
                      rw [← hvr.out, Bool.eq_iff_iff]
                      simp only [beq_iff_eq]
                      constructor
                      · intro h; exact UInt64.toNat_inj.1 (by omega)
                      · intro h; rw [h]
                    have Hbq := Lib.hid hbeq
                    have hBw2 := bgo hBw1 hB2
                    clear hbeq
                    cases v with
                    | false =>
                      have hq := Hbq.out
                      go_wp2_with fail
                      go_ret
                      exact ⟨rfl, hBw2⟩
                    | true =>
                      have hq := Hbq.out
                      go_wp2_with fail
                      go_ret
                      exact ⟨rfl, hBw2⟩
                · have hvf : v = false := by rw [← Hv2.out, okK_bad Hm.out HNM.out.2 (fun h => hhi h.2)]; rfl
                  subst hvf
                  have hdh : decide (1073741789 ≤ mx) = true := decide_eq_true (by omega)
                  clear Hv2 hhi
                  go_enter Tryz.func12, Tryz.ntmps12
                  go_wp2_with fail
                  refine (isName_any person _ (by unfold maxLen; omega)).mono ?_
                  rintro e w' ⟨rfl, rfl⟩
                  rw [Hnb.out]
                  go_upto_region 5 with fail
                  obtain ⟨W, hW⟩ : ∃ W, W = w.alloc (.cells #[.string person, .int .i64 month, .slice A m ca, .slice (some ⟨b2, o2, none⟩) m cb, .int .u64 root.toNat] 27) := ⟨_, rfl⟩
                  rw [← hW]
                  have g0 : W.heap[w.heap.size]? = some (.cells #[.string person, .int .i64 month, .slice A m ca, .slice (some ⟨b2, o2, none⟩) m cb, .int .u64 root.toNat] 27 (0, 0)) := by rw [hW]; exact World.alloc_heap_new _ _
                  have hBW : Below w.heap.size w W := by rw [hW]; exact bal (Below.refl _ _) _
                  have hszW : w.heap.size < W.heap.size := by rw [hW]; simp
                  clear hW
                  have c2 : W.cell? ⟨w.heap.size, 2, none⟩ = some (.slice A m ca) := by rw [Lib.cell_of_heap g0]; rfl
                  have c3 : W.cell? ⟨w.heap.size, 3, none⟩ = some (.slice (some ⟨b2, o2, none⟩) m cb) := by rw [Lib.cell_of_heap g0]; rfl
                  have G0 := Lib.hid g0
                  clear g0
                  have hmin := Tryz.slices_Min_int b2 o2 m cb bl W (by omega) (by rw [Hm.out]; exact Nat.le_refl _) (by omega) (fun j hj => (hBW.cell (p := ⟨b2, o2 + j, none⟩) hb2).trans (Hc2.out j _ (intV_get bl j hj)))
                  have hmax := Tryz.slices_Max_int b2 o2 m cb bl W (by omega) (by rw [Hm.out]; exact Nat.le_refl _) (by omega) (fun j hj => (hBW.cell (p := ⟨b2, o2 + j, none⟩) hb2).trans (Hc2.out j _ (intV_get bl j hj)))
                  rw [Hmn.out] at hmin
                  rw [Hmx.out] at hmax
                  have HMI := Lib.hid hmin
                  have HMA := Lib.hid hmax
                  clear hmin hmax
                  go_wp2_with fail
                  refine HMI.out.mono ?_
                  rintro e w' ⟨rfl, hw'⟩
                  obtain rfl := hw'.symm
                  go_wp2_with fail
                  refine HMA.out.mono ?_
                  rintro e w'' ⟨rfl, hw''⟩
                  obtain rfl := hw''.symm
                  go_wp2_with fail
                  go_ret
                  exact ⟨rfl, hBW⟩
              · have hvf : v = false := by rw [← Hv2.out, okK_bad Hm.out HNM.out.1 (fun h => hlo h.1)]; rfl
                subst hvf
                have hdl : decide (mn < 0) = true := decide_eq_true (by omega)
                clear Hv2 hlo
                go_enter Tryz.func12, Tryz.ntmps12
                go_wp2_with fail
                refine (isName_any person _ (by unfold maxLen; omega)).mono ?_
                rintro e w' ⟨rfl, rfl⟩
                rw [Hnb.out]
                go_upto_region 5 with fail
                obtain ⟨W, hW⟩ : ∃ W, W = w.alloc (.cells #[.string person, .int .i64 month, .slice A m ca, .slice (some ⟨b2, o2, none⟩) m cb, .int .u64 root.toNat] 27) := ⟨_, rfl⟩
                rw [← hW]
                have g0 : W.heap[w.heap.size]? = some (.cells #[.string person, .int .i64 month, .slice A m ca, .slice (some ⟨b2, o2, none⟩) m cb, .int .u64 root.toNat] 27 (0, 0)) := by rw [hW]; exact World.alloc_heap_new _ _
                have hBW : Below w.heap.size w W := by rw [hW]; exact bal (Below.refl _ _) _
                have hszW : w.heap.size < W.heap.size := by rw [hW]; simp
                clear hW
                have c2 : W.cell? ⟨w.heap.size, 2, none⟩ = some (.slice A m ca) := by rw [Lib.cell_of_heap g0]; rfl
                have c3 : W.cell? ⟨w.heap.size, 3, none⟩ = some (.slice (some ⟨b2, o2, none⟩) m cb) := by rw [Lib.cell_of_heap g0]; rfl
                have G0 := Lib.hid g0
                clear g0
                have hmin := Tryz.slices_Min_int b2 o2 m cb bl W (by omega) (by rw [Hm.out]; exact Nat.le_refl _) (by omega) (fun j hj => (hBW.cell (p := ⟨b2, o2 + j, none⟩) hb2).trans (Hc2.out j _ (intV_get bl j hj)))
                have hmax := Tryz.slices_Max_int b2 o2 m cb bl W (by omega) (by rw [Hm.out]; exact Nat.le_refl _) (by omega) (fun j hj => (hBW.cell (p := ⟨b2, o2 + j, none⟩) hb2).trans (Hc2.out j _ (intV_get bl j hj)))
                rw [Hmn.out] at hmin
                rw [Hmx.out] at hmax
                have HMI := Lib.hid hmin
                have HMA := Lib.hid hmax
                clear hmin hmax
                go_wp2_with fail
                refine HMI.out.mono ?_
                rintro e w' ⟨rfl, hw'⟩
                obtain rfl := hw'.symm
                go_wp2_with fail
                go_ret
                exact ⟨rfl, hBW⟩
            · have hne : ((m : Int) != (n : Int)) = true := by simp; omega
              have hvf : v = false := by rw [← Hv.out]; simp [hmn]
              subst hvf
              clear Hv hmn
              go_enter Tryz.func12, Tryz.ntmps12
              go_wp2_with fail
              refine (isName_any person _ (by unfold maxLen; omega)).mono ?_
              rintro e w' ⟨rfl, rfl⟩
              rw [Hnb.out]
              go_wp2_with fail
              go_ret
              exact ⟨rfl, bal (Below.refl _ _) _⟩
          · have hd3 : decide ((1024 : Int) < (n : Int)) = true := decide_eq_true (by omega)
            have hvf : v = false := by rw [← Hv.out]; simp [hn2]
            subst hvf
            clear Hv hn2
            go_enter Tryz.func12, Tryz.ntmps12
            go_wp2_with fail
            refine (isName_any person _ (by unfold maxLen; omega)).mono ?_
            rintro e w' ⟨rfl, rfl⟩
            rw [Hnb.out]
            go_wp2_with fail
            go_ret
            exact ⟨rfl, bal (Below.refl _ _) _⟩
        · have hd2 : decide ((n : Int) < 1) = true := decide_eq_true (by omega)
          have hvf : v = false := by rw [← Hv.out]; simp [hn1]
          subst hvf
          clear Hv hn1
          go_enter Tryz.func12, Tryz.ntmps12
          go_wp2_with fail
          refine (isName_any person _ (by unfold maxLen; omega)).mono ?_
          rintro e w' ⟨rfl, rfl⟩
          rw [Hnb.out]
          go_wp2_with fail
          go_ret
          exact ⟨rfl, bal (Below.refl _ _) _⟩
      · have hd1 : decide (1199 < month) = true := decide_eq_true (by omega)
        have hvf : v = false := by rw [← Hv.out]; simp [hm1]
        subst hvf
        clear Hv hm1
        go_enter Tryz.func12, Tryz.ntmps12
        go_wp2_with fail
        refine (isName_any person _ (by unfold maxLen; omega)).mono ?_
        rintro e w' ⟨rfl, rfl⟩
        rw [Hnb.out]
        go_wp2_with fail
        go_ret
        exact ⟨rfl, bal (Below.refl _ _) _⟩
    · have hd0 : decide (month < 0) = true := decide_eq_true (by omega)
      have hvf : v = false := by rw [← Hv.out]; simp [hm0]
      subst hvf
      clear Hv hm0
      go_enter Tryz.func12, Tryz.ntmps12
      go_wp2_with fail
      refine (isName_any person _ (by unfold maxLen; omega)).mono ?_
      rintro e w' ⟨rfl, rfl⟩
      rw [Hnb.out]
      go_wp2_with fail
      go_ret
      exact ⟨rfl, bal (Below.refl _ _) _⟩
end Go.Proofs.YtfjkmhbipkoefaaGreatDoor
namespace Go.On
open Go.Dig
def step (x : UInt64) : UInt64 := sum (2 :: text x)
def steps : Nat → UInt64 → UInt64
  | 0, x => x
  | n + 1, x => step (steps n x)
theorem steps_add (m n : Nat) (x : UInt64) : steps n (steps m x) = steps (m + n) x := by
  induction n with
  | zero => rfl
  | succ n ih => show step (steps n (steps m x)) = step (steps (m + n) x); rw [ih]
def secret (seed : List UInt8) (i k : Int) : UInt64 := sum (3 :: (Lib.itoa i ++ 32 :: (Lib.itoa k ++ 32 :: seed)))
def digit (d : UInt64) (i : Nat) : Nat := d.toNat / 2 ^ (60 - 4 * i) % 16
def csum (d : UInt64) : Nat → Nat
  | 0 => 0
  | j + 1 => csum d j + (15 - digit d j)
def digs (d : UInt64) : List Nat := [digit d 0, digit d 1, digit d 2, digit d 3, digit d 4, digit d 5, digit d 6, digit d 7, digit d 8, digit d 9, digit d 10, digit d 11, digit d 12, digit d 13, digit d 14, digit d 15, csum d 16 / 16, csum d 16 % 16]
theorem digit_lt (d : UInt64) (i : Nat) : digit d i < 16 := Nat.mod_lt _ (by omega)
theorem csum_le (d : UInt64) (j : Nat) : csum d j ≤ 15 * j := by
  induction j with
  | zero => exact Nat.le_refl _
  | succ j ih => simp only [csum]; omega
theorem digs_len (d : UInt64) : (digs d).length = 18 := rfl
def dg (d : UInt64) (k : Nat) : Nat := (digs d).getD k 0
theorem lt18 {k : Nat} (h : k < 18) : k = 0 ∨ k = 1 ∨ k = 2 ∨ k = 3 ∨ k = 4 ∨ k = 5 ∨ k = 6 ∨ k = 7 ∨ k = 8 ∨ k = 9 ∨ k = 10 ∨ k = 11 ∨ k = 12 ∨ k = 13 ∨ k = 14 ∨ k = 15 ∨ k = 16 ∨ k = 17 := by omega
theorem dg_lo (d : UInt64) (k : Nat) (h : k < 16) : dg d k = digit d k := by
  rcases lt18 (show k < 18 by omega) with rfl | rfl | rfl | rfl | rfl | rfl | rfl | rfl | rfl | rfl | rfl | rfl | rfl | rfl | rfl | rfl | rfl | rfl <;> first | rfl | omega
theorem dg_le (d : UInt64) (k : Nat) : dg d k ≤ 15 := by
  by_cases h : k < 18
  · by_cases h' : k < 16
    · rw [dg_lo d k h']; have := digit_lt d k; omega
    · have hc := csum_le d 16
      rcases (show k = 16 ∨ k = 17 by omega) with rfl | rfl
      · show csum d 16 / 16 ≤ 15; omega
      · show csum d 16 % 16 ≤ 15; omega
  · unfold dg; rw [List.getD_eq_getElem?_getD, List.getElem?_eq_none (by rw [digs_len]; omega)]; exact Nat.zero_le _
/-- The leaf of a key. -/
def leafTo (seed : List UInt8) (i : Int) : Nat → List UInt8
  | 0 => []
  | k + 1 => leafTo seed i k ++ text (steps 15 (secret seed i (k : Nat)))
def leaf (seed : List UInt8) (i : Int) : List UInt8 := leafTo seed i 18
theorem text_len (d : UInt64) : (text d).length = 16 := rfl
theorem leafTo_len (seed : List UInt8) (i : Int) (k : Nat) : (leafTo seed i k).length = 16 * k := by
  induction k with
  | zero => rfl
  | succ k ih => rw [leafTo, List.length_append, ih, text_len]; omega
theorem leaf_len (seed : List UInt8) (i : Int) : (leaf seed i).length = 288 := leafTo_len seed i 18
/-- The chains of a signature. -/
def chain (seed : List UInt8) (i : Int) (d : UInt64) (k : Nat) : UInt64 := steps (dg d k) (secret seed i (k : Nat))
def chains (seed : List UInt8) (i : Int) (d : UInt64) : Nat → List UInt64
  | 0 => []
  | k + 1 => chains seed i d k ++ [chain seed i d k]
theorem chains_len (seed : List UInt8) (i : Int) (d : UInt64) (k : Nat) : (chains seed i d k).length = k := by
  induction k with
  | zero => rfl
  | succ k ih => rw [chains, List.length_append, ih]; rfl
theorem chains_get (seed : List UInt8) (i : Int) (d : UInt64) (n k : Nat) (h : k < n) : (chains seed i d n).getD k 0 = chain seed i d k := by
  induction n with
  | zero => omega
  | succ n ih =>
    rw [chains]
    by_cases hk : k < n
    · rw [List.getD_eq_getElem?_getD, List.getElem?_append_left (by rw [chains_len]; exact hk), ← List.getD_eq_getElem?_getD]; exact ih hk
    · have : k = n := by omega
      subst this
      rw [List.getD_eq_getElem?_getD, List.getElem?_append_right (by rw [chains_len]; exact Nat.le_refl _), chains_len]
      simp
/-- The leaf that a signature of a digest leads to. -/
def climbTo (c : List UInt64) (d : UInt64) : Nat → List UInt8
  | 0 => []
  | k + 1 => climbTo c d k ++ text (steps (15 - dg d k) (c.getD k 0))
theorem climbTo_len (c : List UInt64) (d : UInt64) (k : Nat) : (climbTo c d k).length = 16 * k := by
  induction k with
  | zero => rfl
  | succ k ih => rw [climbTo, List.length_append, ih, text_len]; omega
theorem climb_chains (seed : List UInt8) (i : Int) (d : UInt64) (n k : Nat) (h : k ≤ n) : climbTo (chains seed i d n) d k = leafTo seed i k := by
  induction k with
  | zero => rfl
  | succ k ih =>
    rw [climbTo, leafTo, ih (by omega), chains_get seed i d n k (by omega), chain, steps_add]
    have := dg_le d k
    rw [show dg d k + (15 - dg d k) = 15 by omega]
/-- The leaves of a tree. -/
def leaves (seed : List UInt8) : Nat → List (List UInt8)
  | 0 => []
  | n + 1 => leaves seed n ++ [leaf seed (n : Nat)]
theorem leaves_len (seed : List UInt8) (n : Nat) : (leaves seed n).length = n := by
  induction n with
  | zero => rfl
  | succ n ih => rw [leaves, List.length_append, ih]; rfl
theorem leaves_get (seed : List UInt8) (n k : Nat) (h : k < n) : (leaves seed n)[k]? = some (leaf seed (k : Nat)) := by
  induction n with
  | zero => omega
  | succ n ih =>
    rw [leaves]
    by_cases hk : k < n
    · rw [List.getElem?_append_left (by rw [leaves_len]; exact hk)]; exact ih hk
    · have : k = n := by omega
      subst this
      rw [List.getElem?_append_right (by rw [leaves_len]; exact Nat.le_refl _), leaves_len]
      simp
/-- If no digit of the first is less than the second's, the digests are equal. -/
theorem digit_top (a b : UInt64) (h : ∀ j, j < 16 → digit a j = digit b j) : ∀ j, j < 16 → a.toNat / 2 ^ (60 - 4 * j) = b.toNat / 2 ^ (60 - 4 * j)
  | 0, _ => by
    have h0 := h 0 (by omega)
    have ea := a.toNat_lt
    have eb := b.toNat_lt
    simp only [digit, Nat.mul_zero, Nat.sub_zero] at h0 ⊢
    omega
  | j + 1, hj => by
    have ih := digit_top a b h j (by omega)
    have h0 := h (j + 1) hj
    have e : (2 : Nat) ^ (60 - 4 * j) = 2 ^ (60 - 4 * (j + 1)) * 16 := by
      rw [show 60 - 4 * j = (60 - 4 * (j + 1)) + 4 by omega, Nat.pow_add]
    rw [e, ← Nat.div_div_eq_div_mul, ← Nat.div_div_eq_div_mul] at ih
    simp only [digit] at h0
    omega
theorem digest_of_digits (a b : UInt64) (h : ∀ j, j < 16 → digit a j = digit b j) : a = b := by
  have := digit_top a b h 15 (by omega)
  simp only [Nat.reduceMul, Nat.sub_self, Nat.pow_zero, Nat.div_one] at this
  exact UInt64.toNat_inj.1 this
theorem csum_mono (a b : UInt64) : ∀ j, (∀ i, i < j → digit b i ≤ digit a i) → csum a j ≤ csum b j ∧ (csum a j = csum b j → ∀ i, i < j → digit a i = digit b i)
  | 0, _ => ⟨Nat.le_refl _, fun _ i h => absurd h (Nat.not_lt_zero i)⟩
  | j + 1, h => by
    obtain ⟨h1, h2⟩ := csum_mono a b j (fun i hi => h i (by omega))
    have hj := h j (by omega)
    have la := digit_lt a j
    have lb := digit_lt b j
    refine ⟨by simp only [csum]; omega, fun e i hi => ?_⟩
    simp only [csum] at e
    by_cases hij : i < j
    · exact h2 (by omega) i hij
    · have : i = j := by omega
      subst this
      omega
theorem less_some (a b : UInt64) (hne : a ≠ b) : ∃ k, k < 18 ∧ dg a k < dg b k := by
  by_cases hx : ∃ k, k < 18 ∧ dg a k < dg b k
  · exact hx
  · exfalso
    have hall : ∀ k, k < 18 → dg b k ≤ dg a k := fun k hk => by
      by_cases h : dg b k ≤ dg a k
      · exact h
      · exact absurd ⟨k, hk, by omega⟩ hx
    have hd : ∀ i, i < 16 → digit b i ≤ digit a i := fun i hi => by rw [← dg_lo a i hi, ← dg_lo b i hi]; exact hall i (by omega)
    obtain ⟨h1, h2⟩ := csum_mono a b 16 hd
    have h16 : csum b 16 / 16 ≤ csum a 16 / 16 := hall 16 (by omega)
    have h17 : csum b 16 % 16 ≤ csum a 16 % 16 := hall 17 (by omega)
    exact hne (digest_of_digits a b (h2 (by omega)))
end Go.On
namespace Go.Proofs.YtfjkmhbipkoefaaGreatDoor
open Go.RowKit
/-- The table of the hexadecimal digits lies in the world. -/
def hexCells : Array Value := #[.int .u8 48, .int .u8 49, .int .u8 50, .int .u8 51, .int .u8 52, .int .u8 53, .int .u8 54, .int .u8 55, .int .u8 56, .int .u8 57, .int .u8 97, .int .u8 98, .int .u8 99, .int .u8 100, .int .u8 101, .int .u8 102]
def Tab (w : World) : Prop := ∃ t fr, w.heap[1]? = some (.cells hexCells t fr)
theorem lt16 (j : Nat) (h : j < 16) : j = 0 ∨ j = 1 ∨ j = 2 ∨ j = 3 ∨ j = 4 ∨ j = 5 ∨ j = 6 ∨ j = 7 ∨ j = 8 ∨ j = 9 ∨ j = 10 ∨ j = 11 ∨ j = 12 ∨ j = 13 ∨ j = 14 ∨ j = 15 := by omega
theorem hexCells_at (n : Nat) (h : n < 16) : hexCells[n]? = some (.int .u8 (Dig.hexd n).toNat) := by
  rcases lt16 n h with rfl | rfl | rfl | rfl | rfl | rfl | rfl | rfl | rfl | rfl | rfl | rfl | rfl | rfl | rfl | rfl <;> rfl
theorem Tab.cell {w : World} (h : Tab w) (n : Nat) : w.cell? ⟨1, n % 16, none⟩ = some (.int .u8 (Dig.hexd (n % 16)).toNat) := by
  obtain ⟨t, fr, h⟩ := h
  simp only [World.cell?, h]
  exact hexCells_at (n % 16) (by omega)
theorem Tab.size {w : World} (h : Tab w) : 1 < w.heap.size := by
  obtain ⟨t, fr, h⟩ := h
  exact (Array.getElem?_eq_some_iff.1 h).1
theorem Tab.below {w w' : World} (h : Tab w) (hb : Below w.heap.size w w') : Tab w' := by
  obtain ⟨t, fr, h'⟩ := h
  exact ⟨t, fr, (hb.block _ (Array.getElem?_eq_some_iff.1 h').1).trans h'⟩
theorem u64_and_15 (x : Int) : bits .and .u64 x (15 : Int) = x % 16 := by
  have h2 : (BitVec.ofInt 64 (15 : Int)).toNat = 15 := by decide
  show IntKind.u64.wrap ((BitVec.ofInt 64 x &&& BitVec.ofInt 64 15).toNat : Int) = _
  rw [BitVec.toNat_and, h2, nat_mask4, IntKind.wrap_u64, BitVec.toNat_ofInt]
  omega
theorem text_back (W : World) (B : Nat) (d : UInt64) (h0 : W.cell? ⟨B, 0, none⟩ = some (.int .u8 (Dig.dig d 15).toNat)) (h1 : W.cell? ⟨B, 1, none⟩ = some (.int .u8 (Dig.dig d 14).toNat)) (h2 : W.cell? ⟨B, 2, none⟩ = some (.int .u8 (Dig.dig d 13).toNat)) (h3 : W.cell? ⟨B, 3, none⟩ = some (.int .u8 (Dig.dig d 12).toNat)) (h4 : W.cell? ⟨B, 4, none⟩ = some (.int .u8 (Dig.dig d 11).toNat)) (h5 : W.cell? ⟨B, 5, none⟩ = some (.int .u8 (Dig.dig d 10).toNat)) (h6 : W.cell? ⟨B, 6, none⟩ = some (.int .u8 (Dig.dig d 9).toNat)) (h7 : W.cell? ⟨B, 7, none⟩ = some (.int .u8 (Dig.dig d 8).toNat)) (h8 : W.cell? ⟨B, 8, none⟩ = some (.int .u8 (Dig.dig d 7).toNat)) (h9 : W.cell? ⟨B, 9, none⟩ = some (.int .u8 (Dig.dig d 6).toNat)) (h10 : W.cell? ⟨B, 10, none⟩ = some (.int .u8 (Dig.dig d 5).toNat)) (h11 : W.cell? ⟨B, 11, none⟩ = some (.int .u8 (Dig.dig d 4).toNat)) (h12 : W.cell? ⟨B, 12, none⟩ = some (.int .u8 (Dig.dig d 3).toNat)) (h13 : W.cell? ⟨B, 13, none⟩ = some (.int .u8 (Dig.dig d 2).toNat)) (h14 : W.cell? ⟨B, 14, none⟩ = some (.int .u8 (Dig.dig d 1).toNat)) (h15 : W.cell? ⟨B, 15, none⟩ = some (.int .u8 (Dig.dig d 0).toNat)) :
    (convert 73 9 (.slice (some ⟨B, 0, none⟩) 16 16)).run Tryz.prog W = .ok (.string ⟨(Dig.text d).toArray⟩) W := by
  refine run_convert_bytes_back (P := Tryz.prog) W 73 9 5 ⟨B, 0, none⟩ 16 (Dig.text d) Tryz.underlying73 Tryz.underlying5 Tryz.underlying9 ?_
  intro j hj
  have hj : j < 16 := hj
  rcases (show j = 0 ∨ j = 1 ∨ j = 2 ∨ j = 3 ∨ j = 4 ∨ j = 5 ∨ j = 6 ∨ j = 7 ∨ j = 8 ∨ j = 9 ∨ j = 10 ∨ j = 11 ∨ j = 12 ∨ j = 13 ∨ j = 14 ∨ j = 15 by omega) with rfl | rfl | rfl | rfl | rfl | rfl | rfl | rfl | rfl | rfl | rfl | rfl | rfl | rfl | rfl | rfl
  · exact h0
  · exact h1
  · exact h2
  · exact h3
  · exact h4
  · exact h5
  · exact h6
  · exact h7
  · exact h8
  · exact h9
  · exact h10
  · exact h11
  · exact h12
  · exact h13
  · exact h14
  · exact h15
theorem dig_0 (d : UInt64) : Dig.hexd (d.toNat % 16) = Dig.dig d 0 := by unfold Dig.dig; exact congrArg Dig.hexd (by omega)
theorem dig_1 (d : UInt64) : Dig.hexd (d.toNat / 16 % 16) = Dig.dig d 1 := by unfold Dig.dig; exact congrArg Dig.hexd (by omega)
theorem dig_2 (d : UInt64) : Dig.hexd (d.toNat / 16 / 16 % 16) = Dig.dig d 2 := by unfold Dig.dig; exact congrArg Dig.hexd (by omega)
theorem dig_3 (d : UInt64) : Dig.hexd (d.toNat / 16 / 16 / 16 % 16) = Dig.dig d 3 := by unfold Dig.dig; exact congrArg Dig.hexd (by omega)
theorem dig_4 (d : UInt64) : Dig.hexd (d.toNat / 16 / 16 / 16 / 16 % 16) = Dig.dig d 4 := by unfold Dig.dig; exact congrArg Dig.hexd (by omega)
theorem dig_5 (d : UInt64) : Dig.hexd (d.toNat / 16 / 16 / 16 / 16 / 16 % 16) = Dig.dig d 5 := by unfold Dig.dig; exact congrArg Dig.hexd (by omega)
theorem dig_6 (d : UInt64) : Dig.hexd (d.toNat / 16 / 16 / 16 / 16 / 16 / 16 % 16) = Dig.dig d 6 := by unfold Dig.dig; exact congrArg Dig.hexd (by omega)
theorem dig_7 (d : UInt64) : Dig.hexd (d.toNat / 16 / 16 / 16 / 16 / 16 / 16 / 16 % 16) = Dig.dig d 7 := by unfold Dig.dig; exact congrArg Dig.hexd (by omega)
theorem dig_8 (d : UInt64) : Dig.hexd (d.toNat / 16 / 16 / 16 / 16 / 16 / 16 / 16 / 16 % 16) = Dig.dig d 8 := by unfold Dig.dig; exact congrArg Dig.hexd (by omega)
theorem dig_9 (d : UInt64) : Dig.hexd (d.toNat / 16 / 16 / 16 / 16 / 16 / 16 / 16 / 16 / 16 % 16) = Dig.dig d 9 := by unfold Dig.dig; exact congrArg Dig.hexd (by omega)
theorem dig_10 (d : UInt64) : Dig.hexd (d.toNat / 16 / 16 / 16 / 16 / 16 / 16 / 16 / 16 / 16 / 16 % 16) = Dig.dig d 10 := by unfold Dig.dig; exact congrArg Dig.hexd (by omega)
theorem dig_11 (d : UInt64) : Dig.hexd (d.toNat / 16 / 16 / 16 / 16 / 16 / 16 / 16 / 16 / 16 / 16 / 16 % 16) = Dig.dig d 11 := by unfold Dig.dig; exact congrArg Dig.hexd (by omega)
theorem dig_12 (d : UInt64) : Dig.hexd (d.toNat / 16 / 16 / 16 / 16 / 16 / 16 / 16 / 16 / 16 / 16 / 16 / 16 % 16) = Dig.dig d 12 := by unfold Dig.dig; exact congrArg Dig.hexd (by omega)
theorem dig_13 (d : UInt64) : Dig.hexd (d.toNat / 16 / 16 / 16 / 16 / 16 / 16 / 16 / 16 / 16 / 16 / 16 / 16 / 16 % 16) = Dig.dig d 13 := by unfold Dig.dig; exact congrArg Dig.hexd (by omega)
theorem dig_14 (d : UInt64) : Dig.hexd (d.toNat / 16 / 16 / 16 / 16 / 16 / 16 / 16 / 16 / 16 / 16 / 16 / 16 / 16 / 16 % 16) = Dig.dig d 14 := by unfold Dig.dig; exact congrArg Dig.hexd (by omega)
theorem dig_15 (d : UInt64) : Dig.hexd (d.toNat / 16 / 16 / 16 / 16 / 16 / 16 / 16 / 16 / 16 / 16 / 16 / 16 / 16 / 16 / 16 % 16) = Dig.dig d 15 := by unfold Dig.dig; exact congrArg Dig.hexd (by omega)
attribute [local go_sem] u64_and_15
set_option maxHeartbeats 2000000 in
theorem text_any (d : UInt64) (w : World) (hT : Tab w) : Calls Tryz.prog 36 #[.int .u64 d.toNat] w fun e w' => e = .returned (.string ⟨(Dig.text d).toArray⟩) ∧ Below w.heap.size w w' := by
  have h0 := hT.size
  have ht : ∀ n : Nat, w.cell? ⟨1, n % 16, none⟩ = some (.int .u8 (Dig.hexd (n % 16)).toNat) := hT.cell
  have hne : ¬ (1 = w.heap.size) := by omega
  have hne' : ¬ (w.heap.size = 1) := by omega
  clear hT
  have k := text_back (w.alloc (.cells #[.int .u8 (Dig.hexd (d.toNat / 16 / 16 / 16 / 16 / 16 / 16 / 16 / 16 / 16 / 16 / 16 / 16 / 16 / 16 / 16 % 16)).toNat, .int .u8 (Dig.hexd (d.toNat / 16 / 16 / 16 / 16 / 16 / 16 / 16 / 16 / 16 / 16 / 16 / 16 / 16 / 16 % 16)).toNat, .int .u8 (Dig.hexd (d.toNat / 16 / 16 / 16 / 16 / 16 / 16 / 16 / 16 / 16 / 16 / 16 / 16 / 16 % 16)).toNat, .int .u8 (Dig.hexd (d.toNat / 16 / 16 / 16 / 16 / 16 / 16 / 16 / 16 / 16 / 16 / 16 / 16 % 16)).toNat, .int .u8 (Dig.hexd (d.toNat / 16 / 16 / 16 / 16 / 16 / 16 / 16 / 16 / 16 / 16 / 16 % 16)).toNat, .int .u8 (Dig.hexd (d.toNat / 16 / 16 / 16 / 16 / 16 / 16 / 16 / 16 / 16 / 16 % 16)).toNat, .int .u8 (Dig.hexd (d.toNat / 16 / 16 / 16 / 16 / 16 / 16 / 16 / 16 / 16 % 16)).toNat, .int .u8 (Dig.hexd (d.toNat / 16 / 16 / 16 / 16 / 16 / 16 / 16 / 16 % 16)).toNat, .int .u8 (Dig.hexd (d.toNat / 16 / 16 / 16 / 16 / 16 / 16 / 16 % 16)).toNat, .int .u8 (Dig.hexd (d.toNat / 16 / 16 / 16 / 16 / 16 / 16 % 16)).toNat, .int .u8 (Dig.hexd (d.toNat / 16 / 16 / 16 / 16 / 16 % 16)).toNat, .int .u8 (Dig.hexd (d.toNat / 16 / 16 / 16 / 16 % 16)).toNat, .int .u8 (Dig.hexd (d.toNat / 16 / 16 / 16 % 16)).toNat, .int .u8 (Dig.hexd (d.toNat / 16 / 16 % 16)).toNat, .int .u8 (Dig.hexd (d.toNat / 16 % 16)).toNat, .int .u8 (Dig.hexd (d.toNat % 16)).toNat] 100)) w.heap.size d (by simp [go_sem, dig_15]) (by simp [go_sem, dig_14]) (by simp [go_sem, dig_13]) (by simp [go_sem, dig_12]) (by simp [go_sem, dig_11]) (by simp [go_sem, dig_10]) (by simp [go_sem, dig_9]) (by simp [go_sem, dig_8]) (by simp [go_sem, dig_7]) (by simp [go_sem, dig_6]) (by simp [go_sem, dig_5]) (by simp [go_sem, dig_4]) (by simp [go_sem, dig_3]) (by simp [go_sem, dig_2]) (by simp [go_sem, dig_1]) (by simp [go_sem, dig_0])
  go_enter Tryz.func36, Tryz.ntmps36
  go_wp2
  go_rounds 17
  go_ret
  exact ⟨rfl, (Below.refl _ _).alloc (Nat.le_refl _) _⟩
end Go.Proofs.YtfjkmhbipkoefaaGreatDoor
