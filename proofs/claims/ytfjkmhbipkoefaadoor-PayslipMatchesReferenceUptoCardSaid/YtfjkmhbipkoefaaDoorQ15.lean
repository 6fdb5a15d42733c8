/- The walk of payslip.Seal. -/
import Derived.Test.YtfjkmhbipkoefaaDoorQ13
import Derived.Test.YtfjkmhbipkoefaaDoorQ14
import Derived.Test.YtfjkmhbipkoefaaDoorQ02
namespace Go.Proofs.YtfjkmhbipkoefaaDoor
open Go.RowKit Go.Shelf
set_option linter.unusedVariables false
set_option linter.unusedSimpArgs false
set_option maxRecDepth 100000
/-- The text behind a blinding number. -/
def blindT (person : ByteArray) (month : Int) (seed : ByteArray) (i : Nat) : ByteArray := catB [⟨#[5]⟩, itoaB i, blank, person, blank, itoaB month, blank, seed]
def blindI (person : ByteArray) (month : Int) (seed : ByteArray) (i : Nat) : Int := ((Dig.sum (blindT person month seed i).data.toList).toNat : Int) % 1073741789
def blindL (person : ByteArray) (month : Int) (seed : ByteArray) (n : Nat) : List Int := (List.range n).map (blindI person month seed)
theorem blindL_len (person : ByteArray) (month : Int) (seed : ByteArray) (n : Nat) : (blindL person month seed n).length = n := by simp [blindL]
theorem blindL_snoc (person : ByteArray) (month : Int) (seed : ByteArray) (n : Nat) : blindL person month seed (n + 1) = blindL person month seed n ++ [blindI person month seed n] := by simp [blindL, List.range_succ]
theorem blindI_bd (person : ByteArray) (month : Int) (seed : ByteArray) (i : Nat) : 0 ≤ blindI person month seed i ∧ blindI person month seed i < 1073741789 := by unfold blindI; omega
theorem blindL_bd {person : ByteArray} {month : Int} {seed : ByteArray} {n : Nat} : ∀ b ∈ blindL person month seed n, 0 ≤ b ∧ b < 1073741789 := by
  intro b hb
  obtain ⟨j, _, rfl⟩ := List.mem_map.1 hb
  exact blindI_bd _ _ _ _
theorem Rows_at (c : CaseM) (s : SlipM) (cv sv : Value) (hcv : Hid (caseV c = cv)) (hsv : Hid (slipV s = sv)) (R : List RowD) (n : Nat) (E : Int) (hR : Hid (rowsR c s = R)) (hn : Hid (R.length = n)) (hE : Hid (rowsE (fitsB c s) (rowsL c s).length = E)) (w : World) (hc : CaseOk w c) (hs : SlipOk w s) (hT : CaT.Tabs w) :
    Calls Tryd.prog 8 #[cv, sv] w fun e w' => ∃ A ca, e = .returned (.tuple #[.slice A n ca, .int .i64 E]) ∧ (n ≤ ca ∧ ca ≤ maxLen) ∧ w'.ownsRow w.heap.size 64 3 (.slice A n ca) n (rowsV R) ∧ Below w.heap.size w w' := by
  rw [← hcv.out, ← hsv.out, ← hE.out, ← hn.out]
  refine (Rows_any c s w hc hs hT).mono ?_
  rintro e w' ⟨v, rfl, hown, hB⟩
  rw [hR.out] at hown
  obtain ⟨A, ca, rfl, hA⟩ := own_slice hown
  exact ⟨A, ca, rfl, slice_cap hown, hown, hB⟩
theorem own_sl {W : World} {base : Nat} {e : TypeId} {size n : Nat} {A : Option Addr} {c : Nat} {xs : List Value} (h : W.ownsRow base e size (.slice A n c) n xs) : Sl W W.heap.size size A n xs := by
  obtain ⟨A', c', he, hS⟩ := own_slice h
  injection he with h1 h2 h3
  rw [h1]; exact hS
theorem own_to {w w' : World} {base : Nat} {e : TypeId} {size n : Nat} {v : Value} {xs : List Value} (h : w.ownsRow base e size v n xs) (hk : ∀ b, v.ownBlock = some b → w'.heap[b]? = w.heap[b]?) : w'.ownsRow base e size v n xs := by
  refine ⟨h.1, ?_⟩
  rcases h.2 with h0 | ⟨g, cap, cur, rfl, h2, h3, h4⟩
  · exact .inl h0
  · exact .inr ⟨g, cap, cur, rfl, h2, (hk g rfl).trans h3, h4⟩
noncomputable def sealE (c : CaseM) (s : SlipM) (seed : ByteArray) : Int :=
  if 64 < seed.size then 1 else if rowsE (fitsB c s) (rowsL c s).length ≠ 0 then rowsE (fitsB c s) (rowsL c s).length else if okK (rowsR c s) (blindL s.person s.month seed (rowsR c s).length) (rowsR c s).length = true then 0 else 3
/-- A payslip in plain words. -/
structure SheetD where
  person : ByteArray
  month : Int
  rows : List RowD
  bl : List Int
  root : UInt64
noncomputable def sealS (c : CaseM) (s : SlipM) (seed : ByteArray) : SheetD :=
  if sealE c s seed = 0 then ⟨s.person, s.month, rowsR c s, blindL s.person s.month seed (rowsR c s).length, rootV (leafK (rowsR c s) (blindL s.person s.month seed (rowsR c s).length) (rowsR c s).length)⟩ else ⟨⟨#[]⟩, 0, [], [], 0⟩
/-- A payslip that a call has returned. -/
def SheetIs (w : World) (d : SheetD) (err : Int) (e : Ending) (w' : World) : Prop :=
  ∃ A ca B cb, e = .returned (.tuple #[.agg #[.string d.person, .int .i64 d.month, .slice A d.rows.length ca, .slice B d.bl.length cb, .int .u64 d.root.toNat], .int .i64 err]) ∧ (d.rows.length ≤ ca ∧ ca ≤ maxLen) ∧ (d.bl.length ≤ cb ∧ cb ≤ maxLen) ∧ Sl w' w'.heap.size 3 A d.rows.length (rowsV d.rows) ∧ Sl w' w'.heap.size 1 B d.bl.length (intV d.bl) ∧ Below w.heap.size w w'
def SealP (ok : Bool) (w : World) (d : SheetD) (e : Ending) (w' : World) : Prop := if ok = true then SheetIs w d 0 e w' else SheetIs w ⟨⟨#[]⟩, 0, [], [], 0⟩ 3 e w'
theorem SheetIs.zero {w w' : World} {err : Int} (h : Below w.heap.size w w') : SheetIs w ⟨⟨#[]⟩, 0, [], [], 0⟩ err (.returned (.tuple #[.agg #[.string ⟨#[]⟩, .int .i64 0, .slice none 0 0, .slice none 0 0, .int .u64 0], .int .i64 err])) w' :=
  ⟨none, 0, none, 0, rfl, ⟨Nat.le_refl _, Nat.zero_le _⟩, ⟨Nat.le_refl _, Nat.zero_le _⟩, Sl.nil _ 3, Sl.nil _ 1, h⟩
theorem blindT_size (person : ByteArray) (month : Int) (seed : ByteArray) (i : Nat) (hp : person.size ≤ 16) (hm : I64 month) (hs : seed.size ≤ 64) (hi : i ≤ 1024) : (blindT person month seed i).size ≤ 200 := by
  have h1 := itoaB_size i (by omega) (by omega)
  have h2 := itoaB_size month hm.1 hm.2
  rw [blindT, catB_size]
  have e1 : (⟨#[5]⟩ : ByteArray).size = 1 := rfl
  have e2 : blank.size = 1 := rfl
  simp only [List.map_cons, List.map_nil, List.sum_cons, List.sum_nil, e1, e2]
  omega
/-- The payslip that Seal fills: its box, its blinding numbers so far. -/
structure SealJ (w1 : World) (X : Nat) (person : ByteArray) (month : Int) (A : Option Addr) (n ca : Nat) (seed : ByteArray) (k : Nat) (W : World) : Prop where
  row : ∃ B cb, W.heap[X]? = some (.cells #[.string person, .int .i64 month, .slice A n ca, .slice B k cb, .int .u64 0] 43 (0, 0)) ∧ W.ownsRow w1.heap.size 3 1 (.slice B k cb) k (intV (blindL person month seed k))
  bel : Below w1.heap.size w1 W
theorem SealJ.put {w1 : World} {X : Nat} {person : ByteArray} {month : Int} {A : Option Addr} {n ca : Nat} {seed : ByteArray} {k : Nat} {bv : Int} {B B7 : Option Addr} {cb cb7 : Nat} {w7 : World} (hs : blindL person month seed (k + 1) = blindL person month seed k ++ [bv])
    (hb : w7.heap[X]? = some (.cells #[.string person, .int .i64 month, .slice A n ca, .slice B k cb, .int .u64 0] 43 (0, 0))) (hown : w7.ownsRow w1.heap.size 3 1 (.slice B7 (k + 1) cb7) (k + 1) (intV (blindL person month seed k) ++ [.int .i64 bv])) (hB : Below w1.heap.size w1 w7) (hX : X = w1.heap.size) :
    SealJ w1 X person month A n ca seed (k + 1) (w7.setCell ⟨X, 3, none⟩ (.slice B7 (k + 1) cb7)) := by
  have hne : (Value.slice B7 (k + 1) cb7).ownBlock ≠ some X := Lib.ownBlock_ne hown hb (by decide)
  refine ⟨⟨B7, cb7, ?_, ?_⟩, hB.setCell (by rw [hX]; exact Nat.le_refl _) _⟩
  · rw [setCell_heap hb]; rfl
  · rw [hs, intV_snoc]
    exact hown.kept (row := some X) ⟨rfl, rfl, rfl, by simp [World.setCell], fun k _ hk => Below.heap_setCell _ _ _ _ (fun e => hk (by simp [e]))⟩ (Or.inr hne)
theorem sum35_at (s : ByteArray) (v : UInt64) (hv : Hid (Dig.sum s.data.toList = v)) (hs : s.size ≤ maxLen) (w : World) : Calls Tryd.prog 27 #[.string s] w fun e w' => e = .returned (.int .u64 v.toNat) ∧ w = w' := by
  rw [← hv.out]; exact sum_any s w hs
theorem info_int : (Tryd.prog.info? 3).map (fun i => (i.zero, i.size, i.bytes)) = some (some (.int .i64 0), 1, 8) := by kernel_rfl
theorem rowsL_size {c : CaseM} {s : SlipM} {w : World} (hc : CaseOk w c) (hs : SlipOk w s) (hf : fitsB c s = true) : ∀ x ∈ rowsL c s, x.l.size ≤ 70368744177000 ∧ x.r.size ≤ 70368744177000 ∧ I64 x.c := by
  intro x hx
  unfold rowsL at hx
  rcases List.mem_append.1 hx with hx | hx
  · obtain ⟨ln, hln, hx⟩ := List.mem_flatMap.1 hx
    unfold rowOf at hx
    split at hx
    · obtain rfl := List.mem_singleton.1 hx
      have hL := hs.ln ln hln
      unfold fitsB at hf
      rw [Bool.and_eq_true] at hf
      have hfit := List.all_eq_true.1 hf.2 ln hln
      unfold lineFit at hfit
      rw [Bool.and_eq_true, Bool.and_eq_true, Bool.and_eq_true] at hfit
      obtain ⟨⟨⟨hf1, hf2⟩, hf3⟩, _⟩ := hfit
      obtain ⟨ha0, ha1⟩ := of_decide_eq_true hf3
      obtain ⟨hl0, hl1⟩ := of_decide_eq_true hf2
      have hnl := hc.ca
      unfold maxLen at hnl
      obtain ⟨p, hp⟩ := Int.eq_ofNat_of_zero_le hl0
      obtain ⟨q, hq⟩ := Int.eq_ofNat_of_zero_le ha0
      have hpl : p < c.ds.length := by omega
      have hql : q < c.nums.length := by omega
      have hr := reasonB_size c.nums ln ⟨by omega, by omega⟩ (by rw [hq, Int.toNat_natCast]; exact hc.nu _ (by simp [List.getD, hql])) hL.bf hL.br hL.lf hL.lr
      have hd := hc.nm (c.ds.getD ln.line.toNat default) (by rw [hp, Int.toNat_natCast]; simp [List.getD, hpl])
      exact ⟨by dsimp only; omega, by dsimp only; omega, hL.ba⟩
    · cases hx
  · unfold tailR sumsL at hx
    have h3 : (⟨#[115, 117, 109]⟩ : ByteArray).size ≤ 70368744177000 := by decide
    simp only [List.cons_append, List.nil_append, List.mem_cons, List.mem_append, List.mem_map, List.not_mem_nil, or_false] at hx
    rcases hx with rfl | rfl | rfl | rfl | ⟨t, ht, rfl⟩ | rfl
    · exact ⟨by first | decide | (dsimp only; decide), by first | decide | (dsimp only; decide), hs.g0⟩
    · exact ⟨by first | decide | (dsimp only; decide), by first | decide | (dsimp only; decide), hs.g1⟩
    · exact ⟨by first | decide | (dsimp only; decide), by first | decide | (dsimp only; decide), hs.g2⟩
    · exact ⟨by first | decide | (dsimp only; decide), by first | decide | (dsimp only; decide), hs.g3⟩
    · obtain ⟨h1, h2⟩ := hs.ti t ht
      have hz := itoaB_size t.1 h1.1 h1.2
      refine ⟨?_, by first | decide | (dsimp only [orderR]; decide), h2⟩
      show ((⟨#[111, 114, 100, 101, 114, 32]⟩ : ByteArray) ++ itoaB t.1).size ≤ _
      rw [app_size]
      have e : (⟨#[111, 114, 100, 101, 114, 32]⟩ : ByteArray).size = 6 := rfl
      omega
    · exact ⟨by first | decide | (dsimp only [netR]; decide), by first | decide | (dsimp only [netR]; decide), hs.g4⟩
set_option maxHeartbeats 8000000 in
theorem Seal_long (c : CaseM) (s : SlipM) (seed : ByteArray) (hlong : 64 < seed.size) (w : World) (hc : CaseOk w c) (hs : SlipOk w s) (hT : PTabs w) (hz : seed.size ≤ maxLen) :
    Calls Tryd.prog 10 #[caseV c, slipV s, .string seed] w (SheetIs w ⟨⟨#[]⟩, 0, [], [], 0⟩ 1) := by
  have Hc := Lib.hid hc
  have Hs := Lib.hid hs
  unfold maxLen at hz
  obtain ⟨dn, hdn⟩ : ∃ n, c.ds.length = n := ⟨_, rfl⟩
  obtain ⟨an, han⟩ : ∃ n, c.nums.length = n := ⟨_, rfl⟩
  obtain ⟨ln, hln⟩ : ∃ n, s.lines.length = n := ⟨_, rfl⟩
  obtain ⟨tn, htn⟩ : ∃ n, s.taken.length = n := ⟨_, rfl⟩
  have hcv : caseV c = .agg #[c.f0, .slice c.LA dn c.lc, .slice c.AA an c.ac, c.v3, c.v4, c.v5, c.v6, .string c.cur, .int .i64 c.fst] := by rw [← hdn, ← han]; rfl
  have hsv : slipV s = .agg #[.string s.person, .int .i64 s.month, .slice s.LA ln s.lc, .int .i64 s.gross, .int .i64 s.tax, .int .i64 s.deduct, .int .i64 s.floor, .slice s.TA tn s.tc, .int .i64 s.net] := by rw [← hln, ← htn]; rfl
  have Hcv := Lib.hid hcv
  have Hsv := Lib.hid hsv
  rw [hcv, hsv]
  clear hcv hsv hdn han hln htn hc hs
  go_enter Tryd.func10, Tryd.ntmps10
  have hd : decide ((64 : Int) < (seed.size : Int)) = true := decide_eq_true (by omega)
  clear hlong
  go_wp2_with fail
  refine bodyPost_ret (v := .tuple #[.agg #[.string ⟨#[]⟩, .int .i64 0, .slice none 0 0, .slice none 0 0, .int .u64 0], .int .i64 1]) (by simp [results, Tryd.results10, go_sem]) rfl (SheetIs.zero ?_)
  repeat (refine Below.setCell ?_ (show w.heap.size ≤ w.heap.size + 1 + 1 by omega) _)
  exact bal (bal (bal (Below.refl _ _) _) _) _
set_option maxHeartbeats 8000000 in
theorem Seal_err (c : CaseM) (s : SlipM) (seed : ByteArray) (hd0 : seed.size ≤ 64) (R : List RowD) (n : Nat) (E : Int) (HR : Hid (rowsR c s = R)) (Hn : Hid (R.length = n)) (HE : Hid (rowsE (fitsB c s) (rowsL c s).length = E)) (hE : E ≠ 0) (w : World) (hc : CaseOk w c) (hs : SlipOk w s) (hT : PTabs w) (hz : seed.size ≤ maxLen) :
    Calls Tryd.prog 10 #[caseV c, slipV s, .string seed] w (SheetIs w ⟨⟨#[]⟩, 0, [], [], 0⟩ E) := by
  have Hc := Lib.hid hc
  have Hs := Lib.hid hs
  unfold maxLen at hz
  obtain ⟨dn, hdn⟩ : ∃ n, c.ds.length = n := ⟨_, rfl⟩
  obtain ⟨an, han⟩ : ∃ n, c.nums.length = n := ⟨_, rfl⟩
  obtain ⟨ln, hln⟩ : ∃ n, s.lines.length = n := ⟨_, rfl⟩
  obtain ⟨tn, htn⟩ : ∃ n, s.taken.length = n := ⟨_, rfl⟩
  have hcv : caseV c = .agg #[c.f0, .slice c.LA dn c.lc, .slice c.AA an c.ac, c.v3, c.v4, c.v5, c.v6, .string c.cur, .int .i64 c.fst] := by rw [← hdn, ← han]; rfl
  have hsv : slipV s = .agg #[.string s.person, .int .i64 s.month, .slice s.LA ln s.lc, .int .i64 s.gross, .int .i64 s.tax, .int .i64 s.deduct, .int .i64 s.floor, .slice s.TA tn s.tc, .int .i64 s.net] := by rw [← hln, ← htn]; rfl
  have Hcv := Lib.hid hcv
  have Hsv := Lib.hid hsv
  rw [hcv, hsv]
  clear hcv hsv hdn han hln htn hc hs
  have hdd : decide ((64 : Int) < (seed.size : Int)) = false := decide_eq_false (by omega)
  go_enter Tryd.func10, Tryd.ntmps10
  go_upto_region 3 with fail
  obtain ⟨W, hW⟩ : ∃ W, W = ((w.alloc (.cells #[c.f0, .slice c.LA dn c.lc, .slice c.AA an c.ac, c.v3, c.v4, c.v5, c.v6, .string c.cur, .int .i64 c.fst] 33)).alloc (.cells #[.string s.person, .int .i64 s.month, .slice s.LA ln s.lc, .int .i64 s.gross, .int .i64 s.tax, .int .i64 s.deduct, .int .i64 s.floor, .slice s.TA tn s.tc, .int .i64 s.net] 37)).alloc (.cells #[.string ⟨#[]⟩, .int .i64 0, .slice none 0 0, .slice none 0 0, .int .u64 0] 43) := ⟨_, rfl⟩
  rw [← hW]
  have q0 : W.heap[w.heap.size]? = some (.cells #[c.f0, .slice c.LA dn c.lc, .slice c.AA an c.ac, c.v3, c.v4, c.v5, c.v6, .string c.cur, .int .i64 c.fst] 33) := by
    rw [hW]; exact (Below.heap_alloc _ _ _ (by simp; omega)).trans (heap_alloc2_old w _ _)
  have q1 : W.heap[w.heap.size + 1]? = some (.cells #[.string s.person, .int .i64 s.month, .slice s.LA ln s.lc, .int .i64 s.gross, .int .i64 s.tax, .int .i64 s.deduct, .int .i64 s.floor, .slice s.TA tn s.tc, .int .i64 s.net] 37) := by
    rw [hW]; exact (Below.heap_alloc _ _ _ (by simp)).trans (heap_alloc2_new w _ _)
  have q2 : W.heap[w.heap.size + 1 + 1]? = some (.cells #[.string ⟨#[]⟩, .int .i64 0, .slice none 0 0, .slice none 0 0, .int .u64 0] 43) := by
    rw [hW]
    have := World.alloc_heap_new ((w.alloc (.cells #[c.f0, .slice c.LA dn c.lc, .slice c.AA an c.ac, c.v3, c.v4, c.v5, c.v6, .string c.cur, .int .i64 c.fst] 33)).alloc (.cells #[.string s.person, .int .i64 s.month, .slice s.LA ln s.lc, .int .i64 s.gross, .int .i64 s.tax, .int .i64 s.deduct, .int .i64 s.floor, .slice s.TA tn s.tc, .int .i64 s.net] 37)) (.cells #[.string ⟨#[]⟩, .int .i64 0, .slice none 0 0, .slice none 0 0, .int .u64 0] 43)
    rwa [show ((w.alloc (.cells #[c.f0, .slice c.LA dn c.lc, .slice c.AA an c.ac, c.v3, c.v4, c.v5, c.v6, .string c.cur, .int .i64 c.fst] 33)).alloc (.cells #[.string s.person, .int .i64 s.month, .slice s.LA ln s.lc, .int .i64 s.gross, .int .i64 s.tax, .int .i64 s.deduct, .int .i64 s.floor, .slice s.TA tn s.tc, .int .i64 s.net] 37)).heap.size = w.heap.size + 1 + 1 by simp] at this
  have hBW : Below w.heap.size w W := by rw [hW]; exact bal (bal (bal (Below.refl _ _) _) _) _
  have hszW : W.heap.size = w.heap.size + 3 := by rw [hW]; simp
  clear hW
  have k0 : W.cell? ⟨w.heap.size, 0, none⟩ = some (c.f0) := by rw [Lib.cell_of_heap q0]; rfl
  have k1 : W.cell? ⟨w.heap.size, 1, none⟩ = some (.slice c.LA dn c.lc) := by rw [Lib.cell_of_heap q0]; rfl
  have k2 : W.cell? ⟨w.heap.size, 2, none⟩ = some (.slice c.AA an c.ac) := by rw [Lib.cell_of_heap q0]; rfl
  have k3 : W.cell? ⟨w.heap.size, 3, none⟩ = some (c.v3) := by rw [Lib.cell_of_heap q0]; rfl
  have k4 : W.cell? ⟨w.heap.size, 4, none⟩ = some (c.v4) := by rw [Lib.cell_of_heap q0]; rfl
  have k5 : W.cell? ⟨w.heap.size, 5, none⟩ = some (c.v5) := by rw [Lib.cell_of_heap q0]; rfl
  have k6 : W.cell? ⟨w.heap.size, 6, none⟩ = some (c.v6) := by rw [Lib.cell_of_heap q0]; rfl
  have k7 : W.cell? ⟨w.heap.size, 7, none⟩ = some (.string c.cur) := by rw [Lib.cell_of_heap q0]; rfl
  have k8 : W.cell? ⟨w.heap.size, 8, none⟩ = some (.int .i64 c.fst) := by rw [Lib.cell_of_heap q0]; rfl
  have m0 : W.cell? ⟨w.heap.size + 1, 0, none⟩ = some (.string s.person) := by rw [Lib.cell_of_heap q1]; rfl
  have m1 : W.cell? ⟨w.heap.size + 1, 1, none⟩ = some (.int .i64 s.month) := by rw [Lib.cell_of_heap q1]; rfl
  have m2 : W.cell? ⟨w.heap.size + 1, 2, none⟩ = some (.slice s.LA ln s.lc) := by rw [Lib.cell_of_heap q1]; rfl
  have m3 : W.cell? ⟨w.heap.size + 1, 3, none⟩ = some (.int .i64 s.gross) := by rw [Lib.cell_of_heap q1]; rfl
  have m4 : W.cell? ⟨w.heap.size + 1, 4, none⟩ = some (.int .i64 s.tax) := by rw [Lib.cell_of_heap q1]; rfl
  have m5 : W.cell? ⟨w.heap.size + 1, 5, none⟩ = some (.int .i64 s.deduct) := by rw [Lib.cell_of_heap q1]; rfl
  have m6 : W.cell? ⟨w.heap.size + 1, 6, none⟩ = some (.int .i64 s.floor) := by rw [Lib.cell_of_heap q1]; rfl
  have m7 : W.cell? ⟨w.heap.size + 1, 7, none⟩ = some (.slice s.TA tn s.tc) := by rw [Lib.cell_of_heap q1]; rfl
  have m8 : W.cell? ⟨w.heap.size + 1, 8, none⟩ = some (.int .i64 s.net) := by rw [Lib.cell_of_heap q1]; rfl
  have Q := Lib.hid (And.intro q0 (And.intro q1 q2))
  have HszW := Lib.hid hszW
  clear q0 q1 q2 hszW
  go_wp2_with fail
  refine (Rows_at c s _ _ Hcv Hsv R n E HR Hn HE W (Hc.out.go hBW) (Hs.out.go hBW) (hT.go hBW).1).mono ?_
  rintro e w1 ⟨A, ca, rfl, hca, hA, hB1⟩
  clear k0 k1 k2 k3 k4 k5 k6 k7 k8 m0 m1 m2 m3 m4 m5 m6 m7 m8
  have hs1 := hB1.size
  have hw1 : w.heap.size + 3 ≤ w1.heap.size := by rw [← HszW.out]; exact hs1
  have r1 : w1.heap[w.heap.size + 1]? = some (.cells #[.string s.person, .int .i64 s.month, .slice s.LA ln s.lc, .int .i64 s.gross, .int .i64 s.tax, .int .i64 s.deduct, .int .i64 s.floor, .slice s.TA tn s.tc, .int .i64 s.net] 37) := (hB1.block _ (by rw [HszW.out]; omega)).trans Q.out.2.1
  have r2 : w1.heap[w.heap.size + 1 + 1]? = some (.cells #[.string ⟨#[]⟩, .int .i64 0, .slice none 0 0, .slice none 0 0, .int .u64 0] 43) := (hB1.block _ (by rw [HszW.out]; omega)).trans Q.out.2.2
  have hBw1 := bgo hBW hB1
  have hne : (E != 0) = true := by simp [hE]
  have x0 : w1.cell? ⟨w.heap.size + 1 + 1, 0, none⟩ = some (.string ⟨#[]⟩) := by rw [Lib.cell_of_heap r2]; rfl
  have x1 : w1.cell? ⟨w.heap.size + 1 + 1, 1, none⟩ = some (.int .i64 0) := by rw [Lib.cell_of_heap r2]; rfl
  have x2 : w1.cell? ⟨w.heap.size + 1 + 1, 2, none⟩ = some (.slice none 0 0) := by rw [Lib.cell_of_heap r2]; rfl
  have x3 : w1.cell? ⟨w.heap.size + 1 + 1, 3, none⟩ = some (.slice none 0 0) := by rw [Lib.cell_of_heap r2]; rfl
  have x4 : w1.cell? ⟨w.heap.size + 1 + 1, 4, none⟩ = some (.int .u64 0) := by rw [Lib.cell_of_heap r2]; rfl
  have y : ∀ j, w1.frozen? ⟨w.heap.size + 1 + 1, j, none⟩ = false := fun j => Lib.frozen_of_heap r2 j
  clear hE r1 r2
  go_wp2_with fail
  refine bodyPost_ret (v := .tuple #[.agg #[.string ⟨#[]⟩, .int .i64 0, .slice none 0 0, .slice none 0 0, .int .u64 0], .int .i64 E]) (by simp [results, Tryd.results10, go_sem, x0, x1, x2, x3, x4]) rfl (SheetIs.zero ?_)
  repeat (refine Below.setCell ?_ (show w.heap.size ≤ w.heap.size + 1 + 1 by omega) _)
  exact hBw1
set_option maxHeartbeats 8000000 in
theorem Seal_rows (c : CaseM) (s : SlipM) (seed : ByteArray) (hd0 : seed.size ≤ 64) (hf : Hid (fitsB c s = true)) (hl : (rowsL c s).length ≤ 1024) (R : List RowD) (n : Nat) (HR : Hid (rowsL c s = R)) (Hn : Hid (R.length = n)) (ok : Bool) (Hok : Hid (okK R (blindL s.person s.month seed n) n = ok)) (w : World) (hc : CaseOk w c) (hs : SlipOk w s) (hT : PTabs w) (hz : seed.size ≤ maxLen) :
    Calls Tryd.prog 10 #[caseV c, slipV s, .string seed] w (SealP ok w ⟨s.person, s.month, R, blindL s.person s.month seed n, rootV (leafK R (blindL s.person s.month seed n) n)⟩) := by
  have Hc := Lib.hid hc
  have Hs := Lib.hid hs
  unfold maxLen at hz
  obtain ⟨dn, hdn⟩ : ∃ n, c.ds.length = n := ⟨_, rfl⟩
  obtain ⟨an, han⟩ : ∃ n, c.nums.length = n := ⟨_, rfl⟩
  obtain ⟨ln, hln⟩ : ∃ n, s.lines.length = n := ⟨_, rfl⟩
  obtain ⟨tn, htn⟩ : ∃ n, s.taken.length = n := ⟨_, rfl⟩
  have hcv : caseV c = .agg #[c.f0, .slice c.LA dn c.lc, .slice c.AA an c.ac, c.v3, c.v4, c.v5, c.v6, .string c.cur, .int .i64 c.fst] := by rw [← hdn, ← han]; rfl
  have hsv : slipV s = .agg #[.string s.person, .int .i64 s.month, .slice s.LA ln s.lc, .int .i64 s.gross, .int .i64 s.tax, .int .i64 s.deduct, .int .i64 s.floor, .slice s.TA tn s.tc, .int .i64 s.net] := by rw [← hln, ← htn]; rfl
  have Hcv := Lib.hid hcv
  have Hsv := Lib.hid hsv
  rw [hcv, hsv]
  clear hcv hsv hdn han hln htn hc hs
  have hdd : decide ((64 : Int) < (seed.size : Int)) = false := decide_eq_false (by omega)
  have hn1024 : n ≤ 1024 := by rw [← Hn.out, ← HR.out]; exact hl
  have hRR : rowsR c s = R := by unfold rowsR; rw [if_pos ⟨hf.out, hl⟩]; exact HR.out
  have hE0 : rowsE (fitsB c s) (rowsL c s).length = 0 := by unfold rowsE; rw [if_pos hf.out, if_pos hl]
  have hfit := hf.out
  unfold fitsB at hfit
  rw [Bool.and_eq_true, Bool.and_eq_true] at hfit
  have hpz : s.person.size ≤ 16 := (of_decide_eq_true hfit.1.1).2.1
  obtain ⟨hm0, hm1⟩ := of_decide_eq_true hfit.1.2
  have hRs : ∀ x ∈ R, x.l.size ≤ 70368744177000 ∧ x.r.size ≤ 70368744177000 ∧ I64 x.c := by rw [← HR.out]; exact rowsL_size Hc.out Hs.out hf.out
  have hn1 : 1 ≤ n := by rw [← Hn.out, ← HR.out]; unfold rowsL tailR; simp only [List.length_append, List.length_cons]; omega
  have HRR := Lib.hid hRR
  have HE0 := Lib.hid hE0
  have HRs := Lib.hid hRs
  clear hRR hE0 hfit hRs hl
  go_enter Tryd.func10, Tryd.ntmps10
  go_upto_region 3 with fail
  obtain ⟨W, hW⟩ : ∃ W, W = ((w.alloc (.cells #[c.f0, .slice c.LA dn c.lc, .slice c.AA an c.ac, c.v3, c.v4, c.v5, c.v6, .string c.cur, .int .i64 c.fst] 33)).alloc (.cells #[.string s.person, .int .i64 s.month, .slice s.LA ln s.lc, .int .i64 s.gross, .int .i64 s.tax, .int .i64 s.deduct, .int .i64 s.floor, .slice s.TA tn s.tc, .int .i64 s.net] 37)).alloc (.cells #[.string ⟨#[]⟩, .int .i64 0, .slice none 0 0, .slice none 0 0, .int .u64 0] 43) := ⟨_, rfl⟩
  rw [← hW]
  have q0 : W.heap[w.heap.size]? = some (.cells #[c.f0, .slice c.LA dn c.lc, .slice c.AA an c.ac, c.v3, c.v4, c.v5, c.v6, .string c.cur, .int .i64 c.fst] 33) := by
    rw [hW]; exact (Below.heap_alloc _ _ _ (by simp; omega)).trans (heap_alloc2_old w _ _)
  have q1 : W.heap[w.heap.size + 1]? = some (.cells #[.string s.person, .int .i64 s.month, .slice s.LA ln s.lc, .int .i64 s.gross, .int .i64 s.tax, .int .i64 s.deduct, .int .i64 s.floor, .slice s.TA tn s.tc, .int .i64 s.net] 37) := by
    rw [hW]; exact (Below.heap_alloc _ _ _ (by simp)).trans (heap_alloc2_new w _ _)
  have q2 : W.heap[w.heap.size + 1 + 1]? = some (.cells #[.string ⟨#[]⟩, .int .i64 0, .slice none 0 0, .slice none 0 0, .int .u64 0] 43) := by
    rw [hW]
    have := World.alloc_heap_new ((w.alloc (.cells #[c.f0, .slice c.LA dn c.lc, .slice c.AA an c.ac, c.v3, c.v4, c.v5, c.v6, .string c.cur, .int .i64 c.fst] 33)).alloc (.cells #[.string s.person, .int .i64 s.month, .slice s.LA ln s.lc, .int .i64 s.gross, .int .i64 s.tax, .int .i64 s.deduct, .int .i64 s.floor, .slice s.TA tn s.tc, .int .i64 s.net] 37)) (.cells #[.string ⟨#[]⟩, .int .i64 0, .slice none 0 0, .slice none 0 0, .int .u64 0] 43)
    rwa [show ((w.alloc (.cells #[c.f0, .slice c.LA dn c.lc, .slice c.AA an c.ac, c.v3, c.v4, c.v5, c.v6, .string c.cur, .int .i64 c.fst] 33)).alloc (.cells #[.string s.person, .int .i64 s.month, .slice s.LA ln s.lc, .int .i64 s.gross, .int .i64 s.tax, .int .i64 s.deduct, .int .i64 s.floor, .slice s.TA tn s.tc, .int .i64 s.net] 37)).heap.size = w.heap.size + 1 + 1 by simp] at this
  have hBW : Below w.heap.size w W := by rw [hW]; exact bal (bal (bal (Below.refl _ _) _) _) _
  have hszW : W.heap.size = w.heap.size + 3 := by rw [hW]; simp
  clear hW
  have k0 : W.cell? ⟨w.heap.size, 0, none⟩ = some (c.f0) := by rw [Lib.cell_of_heap q0]; rfl
  have k1 : W.cell? ⟨w.heap.size, 1, none⟩ = some (.slice c.LA dn c.lc) := by rw [Lib.cell_of_heap q0]; rfl
  have k2 : W.cell? ⟨w.heap.size, 2, none⟩ = some (.slice c.AA an c.ac) := by rw [Lib.cell_of_heap q0]; rfl
  have k3 : W.cell? ⟨w.heap.size, 3, none⟩ = some (c.v3) := by rw [Lib.cell_of_heap q0]; rfl
  have k4 : W.cell? ⟨w.heap.size, 4, none⟩ = some (c.v4) := by rw [Lib.cell_of_heap q0]; rfl
  have k5 : W.cell? ⟨w.heap.size, 5, none⟩ = some (c.v5) := by rw [Lib.cell_of_heap q0]; rfl
  have k6 : W.cell? ⟨w.heap.size, 6, none⟩ = some (c.v6) := by rw [Lib.cell_of_heap q0]; rfl
  have k7 : W.cell? ⟨w.heap.size, 7, none⟩ = some (.string c.cur) := by rw [Lib.cell_of_heap q0]; rfl
  have k8 : W.cell? ⟨w.heap.size, 8, none⟩ = some (.int .i64 c.fst) := by rw [Lib.cell_of_heap q0]; rfl
  have m0 : W.cell? ⟨w.heap.size + 1, 0, none⟩ = some (.string s.person) := by rw [Lib.cell_of_heap q1]; rfl
  have m1 : W.cell? ⟨w.heap.size + 1, 1, none⟩ = some (.int .i64 s.month) := by rw [Lib.cell_of_heap q1]; rfl
  have m2 : W.cell? ⟨w.heap.size + 1, 2, none⟩ = some (.slice s.LA ln s.lc) := by rw [Lib.cell_of_heap q1]; rfl
  have m3 : W.cell? ⟨w.heap.size + 1, 3, none⟩ = some (.int .i64 s.gross) := by rw [Lib.cell_of_heap q1]; rfl
  have m4 : W.cell? ⟨w.heap.size + 1, 4, none⟩ = some (.int .i64 s.tax) := by rw [Lib.cell_of_heap q1]; rfl
  have m5 : W.cell? ⟨w.heap.size + 1, 5, none⟩ = some (.int .i64 s.deduct) := by rw [Lib.cell_of_heap q1]; rfl
  have m6 : W.cell? ⟨w.heap.size + 1, 6, none⟩ = some (.int .i64 s.floor) := by rw [Lib.cell_of_heap q1]; rfl
  have m7 : W.cell? ⟨w.heap.size + 1, 7, none⟩ = some (.slice s.TA tn s.tc) := by rw [Lib.cell_of_heap q1]; rfl
  have m8 : W.cell? ⟨w.heap.size + 1, 8, none⟩ = some (.int .i64 s.net) := by rw [Lib.cell_of_heap q1]; rfl
  have Q := Lib.hid (And.intro q0 (And.intro q1 q2))
  have HszW := Lib.hid hszW
  clear q0 q1 q2 hszW
  go_wp2_with fail
  refine (Rows_at c s _ _ Hcv Hsv R n 0 HRR Hn HE0 W (Hc.out.go hBW) (Hs.out.go hBW) (hT.go hBW).1).mono ?_
  rintro e w1 ⟨A, ca, rfl, hca, hA, hB1⟩
  clear k0 k1 k2 k3 k4 k5 k6 k7 k8 m0 m1 m2 m3 m4 m5 m6 m7 m8
  have hs1 := hB1.size
  have hw1 : w.heap.size + 3 ≤ w1.heap.size := by rw [← HszW.out]; exact hs1
  have r1 : w1.heap[w.heap.size + 1]? = some (.cells #[.string s.person, .int .i64 s.month, .slice s.LA ln s.lc, .int .i64 s.gross, .int .i64 s.tax, .int .i64 s.deduct, .int .i64 s.floor, .slice s.TA tn s.tc, .int .i64 s.net] 37) := (hB1.block _ (by rw [HszW.out]; omega)).trans Q.out.2.1
  have r2 : w1.heap[w.heap.size + 1 + 1]? = some (.cells #[.string ⟨#[]⟩, .int .i64 0, .slice none 0 0, .slice none 0 0, .int .u64 0] 43) := (hB1.block _ (by rw [HszW.out]; omega)).trans Q.out.2.2
  have hBw1 := bgo hBW hB1
  have x0 : w1.cell? ⟨w.heap.size + 1, 0, none⟩ = some (.string s.person) := by rw [Lib.cell_of_heap r1]; rfl
  have x1 : w1.cell? ⟨w.heap.size + 1, 1, none⟩ = some (.int .i64 s.month) := by rw [Lib.cell_of_heap r1]; rfl
  have R12 := Lib.hid (And.intro r1 r2)
  have HAw := Lib.hid hA
  have HszX := Lib.hid hw1
  clear hA r1 r2 hs1
  go_upto_region 7 with fail
  obtain ⟨W5, hW5⟩ : ∃ W, W = w1.alloc (.cells #[.string s.person, .int .i64 s.month, .slice A n ca, .slice none 0 0, .int .u64 0] 43) := ⟨_, rfl⟩
  rw [← hW5]
  have gX : W5.heap[w1.heap.size]? = some (.cells #[.string s.person, .int .i64 s.month, .slice A n ca, .slice none 0 0, .int .u64 0] 43 (0, 0)) := by rw [hW5]; exact World.alloc_heap_new _ _
  have hB15 : Below w1.heap.size w1 W5 := by rw [hW5]; exact bal (Below.refl _ _) _
  clear hW5 x0 x1
  obtain ⟨X, hX⟩ : ∃ X, X = w1.heap.size := ⟨_, rfl⟩
  obtain ⟨er, her⟩ : ∃ X, X = w.heap.size + 1 + 1 := ⟨_, rfl⟩
  obtain ⟨bs, hbs⟩ : ∃ X, X = w.heap.size + 1 := ⟨_, rfl⟩
  rw [← hX] at gX ⊢
  rw [← her, ← hbs]
  have HBS : Hid (w1.heap[bs]? = some (.cells #[.string s.person, .int .i64 s.month, .slice s.LA ln s.lc, .int .i64 s.gross, .int .i64 s.tax, .int .i64 s.deduct, .int .i64 s.floor, .slice s.TA tn s.tc, .int .i64 s.net] 37)) := Lib.hid (by rw [hbs]; exact R12.out.1)
  have HER : Hid (w1.heap[er]? = some (.cells #[.string ⟨#[]⟩, .int .i64 0, .slice none 0 0, .slice none 0 0, .int .u64 0] 43)) := Lib.hid (by rw [her]; exact R12.out.2)
  have hbl : bs < w1.heap.size := by omega
  have hel : er < w1.heap.size := by omega
  have hew : w.heap.size ≤ er := by omega
  have hele := Lib.hid (show er < w.heap.size + 3 by omega)
  have hXeq := Lib.hid hX
  clear her hbs
  have HX := Lib.hid hX
  have hwX : w.heap.size + 3 ≤ X := by rw [hX]; exact hw1
  obtain ⟨i0, hi0, hz0, hz1, hz2⟩ := info_parts info_int
  have G0 := Lib.hid (And.intro gX hB15)
  clear gX hB15 hX hw1
  go_wp2
  go_loopw [37] (fun q wr => ∃ k : Nat, k ≤ n ∧ q = .int .i64 (k : Int) ∧ SealJ w1 X s.person s.month A n ca seed k wr) (fun q _ => n - (intOf q).toNat)
  case atStart => exact ⟨0, Nat.zero_le _, rfl, ⟨⟨none, 0, G0.out.1, ⟨rfl, .inl ⟨rfl, rfl⟩⟩⟩, G0.out.2⟩⟩
  case round =>
    obtain ⟨k, hk, rfl, ⟨⟨B, cb, hbk, hown⟩, hBr⟩⟩ := hrel
    have Hbk := Lib.hid hbk
    have Hown := Lib.hid hown
    clear hbk hown
    by_cases hlt : k < n
    · have hlt' : (k : Int) < (n : Int) := by omega
      obtain ⟨t1, ht1⟩ : ∃ t, itoaB (k : Int) = t := ⟨_, rfl⟩
      obtain ⟨t2, ht2⟩ : ∃ t, itoaB s.month = t := ⟨_, rfl⟩
      obtain ⟨t, ht⟩ : ∃ t, blindT s.person s.month seed k = t := ⟨_, rfl⟩
      obtain ⟨d, hd⟩ : ∃ d, Dig.sum t.data.toList = d := ⟨_, rfl⟩
      obtain ⟨bv, hbv⟩ : ∃ b, blindI s.person s.month seed k = b := ⟨_, rfl⟩
      have htz : t.size ≤ 200 := by rw [← ht]; exact blindT_size _ _ _ _ hpz ⟨by omega, by omega⟩ hd0 (by omega)
      have hbb := blindI_bd s.person s.month seed k
      rw [hbv] at hbb
      have htm : (d.toNat : Int).tmod 1073741789 = bv := by rw [Int.tmod_eq_emod_of_nonneg (by omega), ← hbv, blindI, ht, hd]
      have hcv : IntKind.i64.wrap bv = bv := IntWalk.i64_in _ (by omega)
      have Hsn : Hid (blindL s.person s.month seed (k + 1) = blindL s.person s.month seed k ++ [bv]) := Lib.hid (by rw [blindL_snoc, hbv])
      have Ht2 : Hid (catB [⟨#[5]⟩, t1, ⟨#[32]⟩, s.person, ⟨#[32]⟩, t2, ⟨#[32]⟩, seed] = t) := Lib.hid (by rw [← ht1, ← ht2]; exact ht)
      have H1 := Lib.hid ht1
      have H2 := Lib.hid ht2
      have Hd := Lib.hid hd
      have HTM := Lib.hid (And.intro htm hcv)
      have hj : ∀ W', Sl (World.alloc W' (.cells #[.string ⟨#[5]⟩, .string t1, .string ⟨#[32]⟩, .string s.person, .string ⟨#[32]⟩, .string t2, .string ⟨#[32]⟩, .string seed] 9)) (World.alloc W' (.cells #[.string ⟨#[5]⟩, .string t1, .string ⟨#[32]⟩, .string s.person, .string ⟨#[32]⟩, .string t2, .string ⟨#[32]⟩, .string seed] 9)).heap.size 1 (some ⟨W'.heap.size, 0, none⟩) 8 (strV [⟨#[5]⟩, t1, ⟨#[32]⟩, s.person, ⟨#[32]⟩, t2, ⟨#[32]⟩, seed]) := fun W' => sl_cells (World.alloc_heap_new _ _) rfl rfl
      have hwr1 := hBr.size
      have hTr : CaT.Tabs wr.drew := ((hT.go hBw1).go hBr.drew).1
      have hbsd : bs < wr.drew.heap.size := Nat.lt_of_lt_of_le hbl hwr1
      have GB := Lib.hid (show wr.drew.heap[bs]? = some (.cells #[.string s.person, .int .i64 s.month, .slice s.LA ln s.lc, .int .i64 s.gross, .int .i64 s.tax, .int .i64 s.deduct, .int .i64 s.floor, .slice s.TA tn s.tc, .int .i64 s.net] 37) from (hBr.block _ hbl).trans HBS.out)
      have hkI : I64 (k : Int) := ⟨by omega, by omega⟩
      have hmI : I64 s.month := ⟨by omega, by omega⟩
      have ht47 : t.size ≤ 140737488355328 := by omega
      have html : t.size ≤ maxLen := by unfold maxLen; omega
      clear ht1 ht2 ht hd hbv htm hcv htz
      go_upto_region 10 with fail
      refine wp_region_noPanic ?_
      refine wp_region_held_drew (S := fun W' => W'.heap[bs]? = some (.cells #[.string s.person, .int .i64 s.month, .slice s.LA ln s.lc, .int .i64 s.gross, .int .i64 s.tax, .int .i64 s.deduct, .int .i64 s.floor, .slice s.TA tn s.tc, .int .i64 s.net] 37)) (by kernel_rfl) GB.out (fun hHeld => ?_)
      refine wpAnyH_take (i := 0) (v := ?_) rfl (by kernel_rfl) (by kernel_rfl) (by kernel_rfl) (fun _ _ _ h => h) (Or.inl ⟨by kernel_rfl, ?_⟩) (by assumption) ?_
      rotate_left
      · intro w hSw
        (try dsimp only at hSw)
        go_simp
        first | done | with_reducible rfl
      simp only [List.getElem_toArray, List.getElem_cons_zero, List.getElem_cons_succ, Act.put, List.setIfInBounds_toArray, List.set_cons_zero, List.set_cons_succ]
      refine wpAnyH_take (i := 2) (v := ?_) rfl (by kernel_rfl) (by kernel_rfl) (by kernel_rfl) (fun _ _ _ h => h) (Or.inl ⟨by kernel_rfl, ?_⟩) (by assumption) ?_
      rotate_left
      · intro w hSw
        (try dsimp only at hSw)
        go_simp
        first | done | with_reducible rfl
      simp only [List.getElem_toArray, List.getElem_cons_zero, List.getElem_cons_succ, Act.put, List.setIfInBounds_toArray, List.set_cons_zero, List.set_cons_succ]
      refine wpAnyH_take (i := 3) (v := ?_) rfl (by kernel_rfl) (by kernel_rfl) (by kernel_rfl) (fun _ _ _ h => h) (Or.inl ⟨by kernel_rfl, ?_⟩) (by assumption) ?_
      rotate_left
      · intro w hSw
        (try dsimp only at hSw)
        have z0 : w.cell? ⟨bs, 0, none⟩ = some (.string s.person) := by rw [Lib.cell_of_heap hSw]; rfl
        go_simp
        first | done | with_reducible rfl
      simp only [List.getElem_toArray, List.getElem_cons_zero, List.getElem_cons_succ, Act.put, List.setIfInBounds_toArray, List.set_cons_zero, List.set_cons_succ]
      refine wpAnyH_take (i := 4) (v := ?_) rfl (by kernel_rfl) (by kernel_rfl) (by kernel_rfl) (fun _ _ _ h => h) (Or.inl ⟨by kernel_rfl, ?_⟩) (by assumption) ?_
      rotate_left
      · intro w hSw
        (try dsimp only at hSw)
        go_simp
        first | done | with_reducible rfl
      simp only [List.getElem_toArray, List.getElem_cons_zero, List.getElem_cons_succ, Act.put, List.setIfInBounds_toArray, List.set_cons_zero, List.set_cons_succ]
      refine wpAnyH_take (i := 5) (v := ?_) rfl (by kernel_rfl) (by kernel_rfl) (by kernel_rfl) (fun _ _ _ h => h) (Or.inl ⟨by kernel_rfl, ?_⟩) (by assumption) ?_
      rotate_left
      · intro w hSw
        (try dsimp only at hSw)
        have z0 : w.cell? ⟨bs, 1, none⟩ = some (.int .i64 s.month) := by rw [Lib.cell_of_heap hSw]; rfl
        go_simp
        first | done | with_reducible rfl
      simp only [List.getElem_toArray, List.getElem_cons_zero, List.getElem_cons_succ, Act.put, List.setIfInBounds_toArray, List.set_cons_zero, List.set_cons_succ]
      refine wpAnyH_take (i := 7) (v := ?_) rfl (by kernel_rfl) (by kernel_rfl) (by kernel_rfl) (fun _ _ _ h => h) (Or.inl ⟨by kernel_rfl, ?_⟩) (by assumption) ?_
      rotate_left
      · intro w hSw
        (try dsimp only at hSw)
        go_simp
        first | done | with_reducible rfl
      simp only [List.getElem_toArray, List.getElem_cons_zero, List.getElem_cons_succ, Act.put, List.setIfInBounds_toArray, List.set_cons_zero, List.set_cons_succ]
      refine wpAnyH_ready (rs := [1]) (by kernel_rfl) (by simp) ?_
      refine AllReadyH.cons rfl (fun K hK => ?_) AllReadyH.nil
      simp only [List.getElem_toArray, List.getElem_cons_zero, List.getElem_cons_succ]
      go_simp
      (with_reducible refine (itoa_at (k : Int) t1 H1 hkI wr.drew hTr).mono ?_)
      rintro e w2 ⟨rfl, hB2⟩
      dsimp only
      have hD2 : Below wr.drew.heap.size wr.drew w2 := hB2
      refine hK.out _ _ ((hD2.block _ hbsd).trans GB.out) (fun hHeld => ?_)
      clear hK K
      try simp only [List.getElem_toArray, List.getElem_cons_zero, List.getElem_cons_succ, Act.put, List.setIfInBounds_toArray, List.set_cons_zero, List.set_cons_succ]
      refine wpAnyH_ready (rs := [6]) (by kernel_rfl) (by simp) ?_
      refine AllReadyH.cons rfl (fun K hK => ?_) AllReadyH.nil
      simp only [List.getElem_toArray, List.getElem_cons_zero, List.getElem_cons_succ]
      go_simp
      (with_reducible refine (itoa_at s.month t2 H2 hmI w2 (hTr.go hD2)).mono ?_)
      rintro e w3 ⟨rfl, hB3⟩
      dsimp only
      have hD3 := bgo hD2 hB3
      refine hK.out _ _ ((hD3.block _ hbsd).trans GB.out) (fun hHeld => ?_)
      clear hK K
      try simp only [List.getElem_toArray, List.getElem_cons_zero, List.getElem_cons_succ, Act.put, List.setIfInBounds_toArray, List.set_cons_zero, List.set_cons_succ]
      refine wpAnyH_ready (rs := [8]) (by kernel_rfl) (by simp) ?_
      refine AllReadyH.cons rfl (fun K hK => ?_) AllReadyH.nil
      simp only [List.getElem_toArray, List.getElem_cons_zero, List.getElem_cons_succ]
      go_simp
      refine hK.out _ _ (((bal hD3 _).block _ hbsd).trans GB.out) (fun hHeld => ?_)
      clear hK K
      try simp only [List.getElem_toArray, List.getElem_cons_zero, List.getElem_cons_succ, Act.put, List.setIfInBounds_toArray, List.set_cons_zero, List.set_cons_succ]
      refine wpAnyH_ready (rs := [9]) (by kernel_rfl) (by simp) ?_
      refine AllReadyH.cons rfl (fun K hK => ?_) AllReadyH.nil
      simp only [List.getElem_toArray, List.getElem_cons_zero, List.getElem_cons_succ]
      go_simp
      (with_reducible refine (join_at _ 8 8 [⟨#[5]⟩, t1, ⟨#[32]⟩, s.person, ⟨#[32]⟩, t2, ⟨#[32]⟩, seed] t rfl Ht2 (by decide) (by decide) (by decide) ht47 _ (hj w3)).mono ?_)
      rintro e w4 ⟨rfl, hB4⟩
      dsimp only
      have hD4 := bgo (bal hD3 _) hB4
      refine hK.out _ _ ((hD4.block _ hbsd).trans GB.out) (fun hHeld => ?_)
      clear hK K
      try simp only [List.getElem_toArray, List.getElem_cons_zero, List.getElem_cons_succ, Act.put, List.setIfInBounds_toArray, List.set_cons_zero, List.set_cons_succ]
      refine wpAnyH_take (i := 10) (v := ?_) rfl (by kernel_rfl) (by kernel_rfl) (by kernel_rfl) (fun _ _ _ h => h) (Or.inl ⟨by kernel_rfl, ?_⟩) (by assumption) ?_
      rotate_left
      · intro w hSw
        (try dsimp only at hSw)
        go_simp
        first | done | with_reducible rfl
      simp only [List.getElem_toArray, List.getElem_cons_zero, List.getElem_cons_succ, Act.put, List.setIfInBounds_toArray, List.set_cons_zero, List.set_cons_succ]
      refine wpAnyH_done (by kernel_rfl) ?_ _
      dsimp only [NoPanic]
      clear hHeld
      have hB4r : Below wr.heap.size wr w4 := below_undrew hD4
      have hBr4 : Below w1.heap.size w1 w4 := bgo hBr hB4r
      have hXl : X < wr.heap.size := (Array.getElem?_eq_some_iff.1 Hbk.out).1
      have h4X : w4.drew.heap[X]? = some (.cells #[.string s.person, .int .i64 s.month, .slice A n ca, .slice B k cb, .int .u64 0] 43 (0, 0)) := (hB4r.block _ hXl).trans Hbk.out
      have hXd : X < w4.drew.heap.size := Nat.lt_of_lt_of_le hXl hB4r.size
      have hBd : Below w1.heap.size w1 w4.drew := hBr4.drew
      have HO4 := Lib.hid (own_below (own_below Hown.out hB4r) (Below.refl w4.heap.size w4).drew)
      have hneX : (Value.slice B k cb).ownBlock ≠ some X := Lib.ownBlock_ne Hown.out Hbk.out (by decide)
      have kc : w4.drew.cell? ⟨X, 3, none⟩ = some (.slice B k cb) := by rw [Lib.cell_of_heap h4X]; rfl
      have kc6 : (w4.alloc (.cells #[.int .i64 bv] 3)).cell? ⟨X, 3, none⟩ = some (.slice B k cb) := ((bal (Below.refl w4.heap.size w4) _).cell (p := ⟨X, 3, none⟩) hXd).trans kc
      have H4X := Lib.hid h4X
      obtain ⟨htm, hcv⟩ := HTM.out
      clear h4X hD4 hD3 hD2 hB2 hB3 hB4
      go_upto_region 11 with fail
      refine wp_region_noPanic ?_
      refine wp_region_held_drew (S := fun _ => True) (by kernel_rfl) trivial (fun hHeld => ?_)
      refine wpAnyH_take (i := 0) (v := ?_) rfl (by kernel_rfl) (by kernel_rfl) (by kernel_rfl) (fun _ _ _ h => h) (Or.inl ⟨by kernel_rfl, ?_⟩) (by assumption) ?_
      rotate_left
      · intro w hSw
        (try dsimp only at hSw)
        go_simp
        first | done | with_reducible rfl
      simp only [List.getElem_toArray, List.getElem_cons_zero, List.getElem_cons_succ, Act.put, List.setIfInBounds_toArray, List.set_cons_zero, List.set_cons_succ]
      refine wpAnyH_take (i := 2) (v := ?_) rfl (by kernel_rfl) (by kernel_rfl) (by kernel_rfl) (fun _ _ _ h => h) (Or.inl ⟨by kernel_rfl, ?_⟩) (by assumption) ?_
      rotate_left
      · intro w hSw
        (try dsimp only at hSw)
        go_simp
        first | done | with_reducible rfl
      simp only [List.getElem_toArray, List.getElem_cons_zero, List.getElem_cons_succ, Act.put, List.setIfInBounds_toArray, List.set_cons_zero, List.set_cons_succ]
      refine wpAnyH_ready (rs := [1, 3]) (by kernel_rfl) (by simp) ?_
      refine AllReadyH.cons rfl (fun K hK => ?_) ?_
      · simp only [List.getElem_toArray, List.getElem_cons_zero, List.getElem_cons_succ]
        go_simp
        refine hK.out _ _ trivial (fun hHeld => ?_)
        clear hK K
        try simp only [List.getElem_toArray, List.getElem_cons_zero, List.getElem_cons_succ, Act.put, List.setIfInBounds_toArray, List.set_cons_zero, List.set_cons_succ]
        refine wpAnyH_ready (rs := [3]) (by kernel_rfl) (by simp) ?_
        refine AllReadyH.cons rfl (fun K hK => ?_) ?_
        · simp only [List.getElem_toArray, List.getElem_cons_zero, List.getElem_cons_succ]
          go_simp
          (with_reducible refine (sum35_at t d Hd html w4.drew).mono ?_)
          rintro e wq ⟨rfl, hwq⟩
          obtain rfl := hwq
          dsimp only
          refine hK.out _ _ trivial (fun hHeld => ?_)
          clear hK K
          try simp only [List.getElem_toArray, List.getElem_cons_zero, List.getElem_cons_succ, Act.put, List.setIfInBounds_toArray, List.set_cons_zero, List.set_cons_succ]
          refine wpAnyH_take (i := 4) (v := .int .u64 bv) rfl (by kernel_rfl) (by kernel_rfl) (by kernel_rfl) (fun _ _ _ h => h) (Or.inl ⟨by kernel_rfl, ?_⟩) (by assumption) ?_
          · intro w hSw
            (try dsimp only at hSw)
            first | (go_simp; done) | (go_simp; simp [htm])
          simp only [List.getElem_toArray, List.getElem_cons_zero, List.getElem_cons_succ, Act.put, List.setIfInBounds_toArray, List.set_cons_zero, List.set_cons_succ]
          refine wpAnyH_take (i := 5) (v := .int .i64 bv) rfl (by kernel_rfl) (by kernel_rfl) (by kernel_rfl) (fun _ _ _ h => h) (Or.inl ⟨by kernel_rfl, ?_⟩) (by assumption) ?_
          · intro w hSw
            (try dsimp only at hSw)
            first | (go_simp; done) | (go_simp; simp [hcv])
          simp only [List.getElem_toArray, List.getElem_cons_zero, List.getElem_cons_succ, Act.put, List.setIfInBounds_toArray, List.set_cons_zero, List.set_cons_succ]
          refine wpAnyH_ready (rs := [6]) (by kernel_rfl) (by simp) ?_
          refine AllReadyH.cons rfl (fun K hK => ?_) ?_
          · simp only [List.getElem_toArray, List.getElem_cons_zero, List.getElem_cons_succ]
            go_simp
            refine hK.out _ _ trivial (fun hHeld => ?_)
            clear hK K
            try simp only [List.getElem_toArray, List.getElem_cons_zero, List.getElem_cons_succ, Act.put, List.setIfInBounds_toArray, List.set_cons_zero, List.set_cons_succ]
            refine wpAnyH_ready (rs := [7]) (by kernel_rfl) (by simp) ?_
            refine AllReadyH.cons rfl (fun K hK => ?_) ?_
            · refine step_src (w0 := w1) (by rfl) _ _ 39 (by rfl) 3 i0 (.int .i64 0) 1 8 Tryd.underlying39 hi0 hz0 hz1 hz2 (by rfl) (by decide) (.slice B k cb) k (intV (blindL s.person s.month seed k)) (by rfl) (HO4.out.alloc _) (bal hBd _) (.slice (some ⟨w4.drew.heap.size, 0, none⟩) 1 1) 1 [.int .i64 bv] (by rfl) (block_src w4.drew [.int .i64 bv] _ _ 1 1 1 rfl) (by simp [Value.oneCell']) (by simp [maxLen]; omega) (by omega) ?_
              intro v7 w7 hown7 hB7 hk7
              obtain ⟨B7, cb7, hv7, _⟩ := own_slice hown7
              subst hv7
              have hb7 : w7.heap[X]? = some (.cells #[.string s.person, .int .i64 s.month, .slice A n ca, .slice B k cb, .int .u64 0] 43 (0, 0)) := (hk7.2 X (by simp; exact Nat.lt_succ_of_lt hXd) hneX).trans (((bal (Below.refl w4.drew.heap.size w4.drew) _).block _ hXd).trans H4X.out)
              have kc7 : w7.cell? ⟨X, 3, none⟩ = some (.slice B k cb) := by rw [Lib.cell_of_heap hb7]; rfl
              have kf7 : w7.frozen? ⟨X, 3, none⟩ = false := Lib.frozen_of_heap hb7 3
              refine hK.out _ _ trivial (fun hHeld => ?_)
              clear hK K
              try simp only [List.getElem_toArray, List.getElem_cons_zero, List.getElem_cons_succ, Act.put, List.setIfInBounds_toArray, List.set_cons_zero, List.set_cons_succ]
              refine wpAnyH_take (i := 8) (v := ?_) rfl (by kernel_rfl) (by kernel_rfl) (by kernel_rfl) (fun _ _ _ h => h) (Or.inl ⟨by kernel_rfl, ?_⟩) (by assumption) ?_
              rotate_left
              · intro w hSw
                (try dsimp only at hSw)
                go_simp
                first | done | with_reducible rfl
              simp only [List.getElem_toArray, List.getElem_cons_zero, List.getElem_cons_succ, Act.put, List.setIfInBounds_toArray, List.set_cons_zero, List.set_cons_succ]
              refine wpAnyH_ready (rs := [9]) (by kernel_rfl) (by simp) ?_
              refine AllReadyH.cons rfl (fun K hK => ?_) ?_
              · simp only [List.getElem_toArray, List.getElem_cons_zero, List.getElem_cons_succ]
                go_simp
                refine hK.out _ _ trivial (fun hHeld => ?_)
                clear hK K
                try simp only [List.getElem_toArray, List.getElem_cons_zero, List.getElem_cons_succ, Act.put, List.setIfInBounds_toArray, List.set_cons_zero, List.set_cons_succ]
                refine wpAnyH_done (by kernel_rfl) ?_ _
                dsimp only [NoPanic]
                have HO7 := Lib.hid hown7
                have HB7 := Lib.hid hb7
                have HBL := Lib.hid hB7
                clear hHeld hown7 hb7 hB7 hk7 kc7 kf7 kc kc6
                go_wp2
                go_roundw
                case rel => exact ⟨k + 1, by omega, by go_num, SealJ.put Hsn.out HB7.out HO7.out HBL.out hXeq.out⟩
                case measure => simp [intOf]; omega
              exact AllReadyH.nil
            exact AllReadyH.nil
          exact AllReadyH.nil
        exact AllReadyH.nil
      refine AllReadyH.cons rfl (fun K hK => ?_) ?_
      · simp only [List.getElem_toArray, List.getElem_cons_zero, List.getElem_cons_succ]
        go_simp
        (with_reducible refine (sum35_at t d Hd html w4.drew).mono ?_)
        rintro e wq ⟨rfl, hwq⟩
        obtain rfl := hwq
        dsimp only
        refine hK.out _ _ trivial (fun hHeld => ?_)
        clear hK K
        try simp only [List.getElem_toArray, List.getElem_cons_zero, List.getElem_cons_succ, Act.put, List.setIfInBounds_toArray, List.set_cons_zero, List.set_cons_succ]
        refine wpAnyH_take (i := 4) (v := .int .u64 bv) rfl (by kernel_rfl) (by kernel_rfl) (by kernel_rfl) (fun _ _ _ h => h) (Or.inl ⟨by kernel_rfl, ?_⟩) (by assumption) ?_
        · intro w hSw
          (try dsimp only at hSw)
          first | (go_simp; done) | (go_simp; simp [htm])
        simp only [List.getElem_toArray, List.getElem_cons_zero, List.getElem_cons_succ, Act.put, List.setIfInBounds_toArray, List.set_cons_zero, List.set_cons_succ]
        refine wpAnyH_take (i := 5) (v := .int .i64 bv) rfl (by kernel_rfl) (by kernel_rfl) (by kernel_rfl) (fun _ _ _ h => h) (Or.inl ⟨by kernel_rfl, ?_⟩) (by assumption) ?_
        · intro w hSw
          (try dsimp only at hSw)
          first | (go_simp; done) | (go_simp; simp [hcv])
        simp only [List.getElem_toArray, List.getElem_cons_zero, List.getElem_cons_succ, Act.put, List.setIfInBounds_toArray, List.set_cons_zero, List.set_cons_succ]
        refine wpAnyH_ready (rs := [1, 6]) (by kernel_rfl) (by simp) ?_
        refine AllReadyH.cons rfl (fun K hK => ?_) ?_
        · simp only [List.getElem_toArray, List.getElem_cons_zero, List.getElem_cons_succ]
          go_simp
          refine hK.out _ _ trivial (fun hHeld => ?_)
          clear hK K
          try simp only [List.getElem_toArray, List.getElem_cons_zero, List.getElem_cons_succ, Act.put, List.setIfInBounds_toArray, List.set_cons_zero, List.set_cons_succ]
          refine wpAnyH_ready (rs := [6]) (by kernel_rfl) (by simp) ?_
          refine AllReadyH.cons rfl (fun K hK => ?_) ?_
          · simp only [List.getElem_toArray, List.getElem_cons_zero, List.getElem_cons_succ]
            go_simp
            refine hK.out _ _ trivial (fun hHeld => ?_)
            clear hK K
            try simp only [List.getElem_toArray, List.getElem_cons_zero, List.getElem_cons_succ, Act.put, List.setIfInBounds_toArray, List.set_cons_zero, List.set_cons_succ]
            refine wpAnyH_ready (rs := [7]) (by kernel_rfl) (by simp) ?_
            refine AllReadyH.cons rfl (fun K hK => ?_) ?_
            · refine step_src (w0 := w1) (by rfl) _ _ 39 (by rfl) 3 i0 (.int .i64 0) 1 8 Tryd.underlying39 hi0 hz0 hz1 hz2 (by rfl) (by decide) (.slice B k cb) k (intV (blindL s.person s.month seed k)) (by rfl) (HO4.out.alloc _) (bal hBd _) (.slice (some ⟨w4.drew.heap.size, 0, none⟩) 1 1) 1 [.int .i64 bv] (by rfl) (block_src w4.drew [.int .i64 bv] _ _ 1 1 1 rfl) (by simp [Value.oneCell']) (by simp [maxLen]; omega) (by omega) ?_
              intro v7 w7 hown7 hB7 hk7
              obtain ⟨B7, cb7, hv7, _⟩ := own_slice hown7
              subst hv7
              have hb7 : w7.heap[X]? = some (.cells #[.string s.person, .int .i64 s.month, .slice A n ca, .slice B k cb, .int .u64 0] 43 (0, 0)) := (hk7.2 X (by simp; exact Nat.lt_succ_of_lt hXd) hneX).trans (((bal (Below.refl w4.drew.heap.size w4.drew) _).block _ hXd).trans H4X.out)
              have kc7 : w7.cell? ⟨X, 3, none⟩ = some (.slice B k cb) := by rw [Lib.cell_of_heap hb7]; rfl
              have kf7 : w7.frozen? ⟨X, 3, none⟩ = false := Lib.frozen_of_heap hb7 3
              refine hK.out _ _ trivial (fun hHeld => ?_)
              clear hK K
              try simp only [List.getElem_toArray, List.getElem_cons_zero, List.getElem_cons_succ, Act.put, List.setIfInBounds_toArray, List.set_cons_zero, List.set_cons_succ]
              refine wpAnyH_take (i := 8) (v := ?_) rfl (by kernel_rfl) (by kernel_rfl) (by kernel_rfl) (fun _ _ _ h => h) (Or.inl ⟨by kernel_rfl, ?_⟩) (by assumption) ?_
              rotate_left
              · intro w hSw
                (try dsimp only at hSw)
                go_simp
                first | done | with_reducible rfl
              simp only [List.getElem_toArray, List.getElem_cons_zero, List.getElem_cons_succ, Act.put, List.setIfInBounds_toArray, List.set_cons_zero, List.set_cons_succ]
              refine wpAnyH_ready (rs := [9]) (by kernel_rfl) (by simp) ?_
              refine AllReadyH.cons rfl (fun K hK => ?_) ?_
              · simp only [List.getElem_toArray, List.getElem_cons_zero, List.getElem_cons_succ]
                go_simp
                refine hK.out _ _ trivial (fun hHeld => ?_)
                clear hK K
                try simp only [List.getElem_toArray, List.getElem_cons_zero, List.getElem_cons_succ, Act.put, List.setIfInBounds_toArray, List.set_cons_zero, List.set_cons_succ]
                refine wpAnyH_done (by kernel_rfl) ?_ _
                dsimp only [NoPanic]
                have HO7 := Lib.hid hown7
                have HB7 := Lib.hid hb7
                have HBL := Lib.hid hB7
                clear hHeld hown7 hb7 hB7 hk7 kc7 kf7 kc kc6
                go_wp2
                go_roundw
                case rel => exact ⟨k + 1, by omega, by go_num, SealJ.put Hsn.out HB7.out HO7.out HBL.out hXeq.out⟩
                case measure => simp [intOf]; omega
              exact AllReadyH.nil
            exact AllReadyH.nil
          exact AllReadyH.nil
        refine AllReadyH.cons rfl (fun K hK => ?_) ?_
        · simp only [List.getElem_toArray, List.getElem_cons_zero, List.getElem_cons_succ]
          go_simp
          refine hK.out _ _ trivial (fun hHeld => ?_)
          clear hK K
          try simp only [List.getElem_toArray, List.getElem_cons_zero, List.getElem_cons_succ, Act.put, List.setIfInBounds_toArray, List.set_cons_zero, List.set_cons_succ]
          refine wpAnyH_ready (rs := [1]) (by kernel_rfl) (by simp) ?_
          refine AllReadyH.cons rfl (fun K hK => ?_) ?_
          · simp only [List.getElem_toArray, List.getElem_cons_zero, List.getElem_cons_succ]
            go_simp
            refine hK.out _ _ trivial (fun hHeld => ?_)
            clear hK K
            try simp only [List.getElem_toArray, List.getElem_cons_zero, List.getElem_cons_succ, Act.put, List.setIfInBounds_toArray, List.set_cons_zero, List.set_cons_succ]
            refine wpAnyH_ready (rs := [7]) (by kernel_rfl) (by simp) ?_
            refine AllReadyH.cons rfl (fun K hK => ?_) ?_
            · refine step_src (w0 := w1) (by rfl) _ _ 39 (by rfl) 3 i0 (.int .i64 0) 1 8 Tryd.underlying39 hi0 hz0 hz1 hz2 (by rfl) (by decide) (.slice B k cb) k (intV (blindL s.person s.month seed k)) (by rfl) (HO4.out.alloc _) (bal hBd _) (.slice (some ⟨w4.drew.heap.size, 0, none⟩) 1 1) 1 [.int .i64 bv] (by rfl) (block_src w4.drew [.int .i64 bv] _ _ 1 1 1 rfl) (by simp [Value.oneCell']) (by simp [maxLen]; omega) (by omega) ?_
              intro v7 w7 hown7 hB7 hk7
              obtain ⟨B7, cb7, hv7, _⟩ := own_slice hown7
              subst hv7
              have hb7 : w7.heap[X]? = some (.cells #[.string s.person, .int .i64 s.month, .slice A n ca, .slice B k cb, .int .u64 0] 43 (0, 0)) := (hk7.2 X (by simp; exact Nat.lt_succ_of_lt hXd) hneX).trans (((bal (Below.refl w4.drew.heap.size w4.drew) _).block _ hXd).trans H4X.out)
              have kc7 : w7.cell? ⟨X, 3, none⟩ = some (.slice B k cb) := by rw [Lib.cell_of_heap hb7]; rfl
              have kf7 : w7.frozen? ⟨X, 3, none⟩ = false := Lib.frozen_of_heap hb7 3
              refine hK.out _ _ trivial (fun hHeld => ?_)
              clear hK K
              try simp only [List.getElem_toArray, List.getElem_cons_zero, List.getElem_cons_succ, Act.put, List.setIfInBounds_toArray, List.set_cons_zero, List.set_cons_succ]
              refine wpAnyH_take (i := 8) (v := ?_) rfl (by kernel_rfl) (by kernel_rfl) (by kernel_rfl) (fun _ _ _ h => h) (Or.inl ⟨by kernel_rfl, ?_⟩) (by assumption) ?_
              rotate_left
              · intro w hSw
                (try dsimp only at hSw)
                go_simp
                first | done | with_reducible rfl
              simp only [List.getElem_toArray, List.getElem_cons_zero, List.getElem_cons_succ, Act.put, List.setIfInBounds_toArray, List.set_cons_zero, List.set_cons_succ]
              refine wpAnyH_ready (rs := [9]) (by kernel_rfl) (by simp) ?_
              refine AllReadyH.cons rfl (fun K hK => ?_) ?_
              · simp only [List.getElem_toArray, List.getElem_cons_zero, List.getElem_cons_succ]
                go_simp
                refine hK.out _ _ trivial (fun hHeld => ?_)
                clear hK K
                try simp only [List.getElem_toArray, List.getElem_cons_zero, List.getElem_cons_succ, Act.put, List.setIfInBounds_toArray, List.set_cons_zero, List.set_cons_succ]
                refine wpAnyH_done (by kernel_rfl) ?_ _
                dsimp only [NoPanic]
                have HO7 := Lib.hid hown7
                have HB7 := Lib.hid hb7
                have HBL := Lib.hid hB7
                clear hHeld hown7 hb7 hB7 hk7 kc7 kf7 kc kc6
                go_wp2
                go_roundw
                case rel => exact ⟨k + 1, by omega, by go_num, SealJ.put Hsn.out HB7.out HO7.out HBL.out hXeq.out⟩
                case measure => simp [intOf]; omega
              exact AllReadyH.nil
            exact AllReadyH.nil
          exact AllReadyH.nil
        exact AllReadyH.nil
      exact AllReadyH.nil
    · obtain rfl : n = k := by omega
      have c3 : wr.cell? ⟨X, 3, none⟩ = some (.slice B n cb) := by rw [Lib.cell_of_heap Hbk.out]; rfl
      have hXl : X < wr.heap.size := (Array.getElem?_eq_some_iff.1 Hbk.out).1
      have hneX : (Value.slice B n cb).ownBlock ≠ some X := Lib.ownBlock_ne Hown.out Hbk.out (by decide)
      have HNX := Lib.hid hneX
      have hBwr := bgo hBw1 hBr
      have hPT : PTabs wr := hT.go hBwr
      have HAr : Hid (Sl wr wr.heap.size 3 A n (rowsV R)) := Lib.hid ((own_sl HAw.out).go hBr)
      have HBr : Hid (Sl wr wr.heap.size 1 B n (intV (blindL s.person s.month seed n))) := Lib.hid (own_sl Hown.out)
      have hcb : n ≤ cb ∧ cb ≤ maxLen := slice_cap Hown.out
      clear hneX
      go_wp2_with fail
      refine (leaves_at A B ca cb n n R (blindL s.person s.month seed n) ok Hok wr hPT HAr.out HBr.out Hn.out (blindL_len _ _ _ _) (Nat.le_refl _) (by omega) (by unfold maxLen; omega) HRs.out (fun b hb => by have := blindL_bd b hb; exact ⟨by omega, by omega⟩)).mono ?_
      rintro e w2 ⟨C, cc, rfl, hC, hB2⟩
      have hBr2 := bgo hBr hB2
      have hBw2 := bgo hBw1 hBr2
      have e2b : w2.heap[er]? = some (.cells #[.string ⟨#[]⟩, .int .i64 0, .slice none 0 0, .slice none 0 0, .int .u64 0] 43) := (hBr2.block _ hel).trans HER.out
      have X2b : w2.heap[X]? = some (.cells #[.string s.person, .int .i64 s.month, .slice A n ca, .slice B n cb, .int .u64 0] 43 (0, 0)) := (hB2.block _ hXl).trans Hbk.out
      have hX2 : X < w2.heap.size := Nat.lt_of_lt_of_le hXl hB2.size
      have E2B := Lib.hid e2b
      have XB := Lib.hid X2b
      have HC := Lib.hid hC
      clear c3 e2b X2b hC
      cases ok with
      | false =>
        have x0 : w2.cell? ⟨er, 0, none⟩ = some (.string ⟨#[]⟩) := by rw [Lib.cell_of_heap E2B.out]; rfl
        have x1 : w2.cell? ⟨er, 1, none⟩ = some (.int .i64 0) := by rw [Lib.cell_of_heap E2B.out]; rfl
        have x2 : w2.cell? ⟨er, 2, none⟩ = some (.slice none 0 0) := by rw [Lib.cell_of_heap E2B.out]; rfl
        have x3 : w2.cell? ⟨er, 3, none⟩ = some (.slice none 0 0) := by rw [Lib.cell_of_heap E2B.out]; rfl
        have x4 : w2.cell? ⟨er, 4, none⟩ = some (.int .u64 0) := by rw [Lib.cell_of_heap E2B.out]; rfl
        have y : ∀ j, w2.frozen? ⟨er, j, none⟩ = false := fun j => Lib.frozen_of_heap E2B.out j
        go_wp2_with fail
        refine bodyPost_ret (v := .tuple #[.agg #[.string ⟨#[]⟩, .int .i64 0, .slice none 0 0, .slice none 0 0, .int .u64 0], .int .i64 3]) (by simp [results, Tryd.results10, go_sem, x0, x1, x2, x3, x4]) rfl ?_
        unfold SealP
        rw [if_neg (by decide)]
        refine SheetIs.zero ?_
        repeat (refine Below.setCell ?_ (show w.heap.size ≤ er by omega) _)
        exact hBw2
      | true =>
        have HC2 : Hid (Sl w2 w2.heap.size 1 C n (strV (leafK R (blindL s.person s.month seed n) n))) := Lib.hid (by have := HC.out; rw [if_pos rfl] at this; rw [if_pos rfl] at this; exact this)
        rw [if_pos rfl]
        obtain ⟨rd, hrd⟩ : ∃ d, rootV (leafK R (blindL s.person s.month seed n) n) = d := ⟨_, rfl⟩
        have Hrd := Lib.hid hrd
        have Hck : Hid (checkE n = 0) := Lib.hid (checkE_in ⟨hn1, hn1024⟩)
        clear hrd
        go_wp2_with fail
        refine (root_at C cc n (leafK R (blindL s.person s.month seed n) n) rd 0 w2 (leafK_len _ _ _) Hrd.out Hck.out HC2.out (leafK_size (by rw [Hn.out]; exact Nat.le_refl _) HRs.out) (by omega)).mono ?_
        rintro e w3 ⟨rfl, hB3⟩
        have hBr3 := bgo hBr2 hB3
        have hBw3 := bgo hBw1 hBr3
        have E3B := Lib.hid ((hB3.block _ (Nat.lt_of_lt_of_le hel hBr2.size)).trans E2B.out)
        have X3B := Lib.hid ((hB3.block _ hX2).trans XB.out)
        have hne : X ≠ er := by have := hXeq.out; omega
        have x0 : w3.cell? ⟨er, 0, none⟩ = some (.string ⟨#[]⟩) := by rw [Lib.cell_of_heap E3B.out]; rfl
        have x1 : w3.cell? ⟨er, 1, none⟩ = some (.int .i64 0) := by rw [Lib.cell_of_heap E3B.out]; rfl
        have x2 : w3.cell? ⟨er, 2, none⟩ = some (.slice none 0 0) := by rw [Lib.cell_of_heap E3B.out]; rfl
        have x3 : w3.cell? ⟨er, 3, none⟩ = some (.slice none 0 0) := by rw [Lib.cell_of_heap E3B.out]; rfl
        have x4 : w3.cell? ⟨er, 4, none⟩ = some (.int .u64 0) := by rw [Lib.cell_of_heap E3B.out]; rfl
        have z0 : w3.cell? ⟨X, 0, none⟩ = some (.string s.person) := by rw [Lib.cell_of_heap X3B.out]; rfl
        have z1 : w3.cell? ⟨X, 1, none⟩ = some (.int .i64 s.month) := by rw [Lib.cell_of_heap X3B.out]; rfl
        have z2 : w3.cell? ⟨X, 2, none⟩ = some (.slice A n ca) := by rw [Lib.cell_of_heap X3B.out]; rfl
        have z3 : w3.cell? ⟨X, 3, none⟩ = some (.slice B n cb) := by rw [Lib.cell_of_heap X3B.out]; rfl
        have z4 : w3.cell? ⟨X, 4, none⟩ = some (.int .u64 0) := by rw [Lib.cell_of_heap X3B.out]; rfl
        have y : ∀ j, w3.frozen? ⟨er, j, none⟩ = false := fun j => Lib.frozen_of_heap E3B.out j
        have yX : ∀ j, w3.frozen? ⟨X, j, none⟩ = false := fun j => Lib.frozen_of_heap X3B.out j
        go_wp2_with fail
        obtain ⟨G, hG⟩ : ∃ G, G = w3.setCell ⟨X, 4, none⟩ (.int .u64 rd.toNat) := ⟨_, rfl⟩
        obtain ⟨F, hF⟩ : ∃ F, F = ((((G.setCell ⟨er, 0, none⟩ (.string s.person)).setCell ⟨er, 1, none⟩ (.int .i64 s.month)).setCell ⟨er, 2, none⟩ (.slice A n ca)).setCell ⟨er, 3, none⟩ (.slice B n cb)).setCell ⟨er, 4, none⟩ (.int .u64 rd.toNat) := ⟨_, rfl⟩
        rw [← hG, ← hF]
        have hGe : G.heap[er]? = some (.cells #[.string ⟨#[]⟩, .int .i64 0, .slice none 0 0, .slice none 0 0, .int .u64 0] 43) := by rw [hG]; exact (Below.heap_setCell _ _ _ _ (show er ≠ X from Ne.symm hne)).trans E3B.out
        have hFe : F.heap[er]? = some (.cells #[.string s.person, .int .i64 s.month, .slice A n ca, .slice B n cb, .int .u64 rd.toNat] 43 (0, 0)) := by
          rw [hF, setCell_heap (setCell_heap (setCell_heap (setCell_heap (setCell_heap hGe))))]
          rfl
        have hFo : ∀ b, b ≠ X → b ≠ er → F.heap[b]? = w3.heap[b]? := fun b h1 h2 => by
          rw [hF, hG]
          exact (Below.heap_setCell _ _ _ _ h2).trans ((Below.heap_setCell _ _ _ _ h2).trans ((Below.heap_setCell _ _ _ _ h2).trans ((Below.heap_setCell _ _ _ _ h2).trans ((Below.heap_setCell _ _ _ _ h2).trans (Below.heap_setCell _ _ _ _ h1)))))
        have hFs : F.heap.size = w3.heap.size := by rw [hF, hG]; simp [World.setCell]
        have hBF : Below w.heap.size w F := by
          rw [hF, hG]
          have hXw : w.heap.size ≤ X := by omega
          exact (((((hBw3.setCell hXw _).setCell hew _).setCell hew _).setCell hew _).setCell hew _).setCell hew _
        have hAF : F.ownsRow W.heap.size 64 3 (.slice A n ca) n (rowsV R) := own_to (own_below HAw.out hBr3) (fun b hb => hFo b (by have := (HAw.out.lt b hb).2; have := hXeq.out; omega) (by have := (HAw.out.lt b hb).1; have := HszW.out; have := hele.out; omega))
        have hBFo : F.ownsRow w1.heap.size 3 1 (.slice B n cb) n (intV (blindL s.person s.month seed n)) := own_to (own_below (own_below Hown.out hB2) hB3) (fun b hb => hFo b (fun e => HNX.out (by rw [hb, e])) (by have := (Hown.out.lt b hb).1; omega))
        have hSA := own_sl hAF
        have hSB := own_sl hBFo
        have u0 : F.cell? ⟨er, 0, none⟩ = some (.string s.person) := by rw [Lib.cell_of_heap hFe]; rfl
        have u1 : F.cell? ⟨er, 1, none⟩ = some (.int .i64 s.month) := by rw [Lib.cell_of_heap hFe]; rfl
        have u2 : F.cell? ⟨er, 2, none⟩ = some (.slice A n ca) := by rw [Lib.cell_of_heap hFe]; rfl
        have u3 : F.cell? ⟨er, 3, none⟩ = some (.slice B n cb) := by rw [Lib.cell_of_heap hFe]; rfl
        have u4 : F.cell? ⟨er, 4, none⟩ = some (.int .u64 rd.toNat) := by rw [Lib.cell_of_heap hFe]; rfl
        refine bodyPost_ret (v := .tuple #[.agg #[.string s.person, .int .i64 s.month, .slice A n ca, .slice B n cb, .int .u64 rd.toNat], .int .i64 0]) (by simp [results, Tryd.results10, go_sem, u0, u1, u2, u3, u4]) rfl ?_
        unfold SealP
        rw [if_pos rfl]
        refine ⟨A, ca, B, cb, ?_, ?_, ?_, ?_, ?_, hBF⟩
        · dsimp only
          rw [Hn.out, blindL_len, Hrd.out]
        · dsimp only; rw [Hn.out]; exact hca
        · dsimp only; rw [blindL_len]; exact hcb
        · dsimp only; rw [Hn.out]; exact hSA
        · dsimp only; rw [blindL_len]; exact hSB
/-- Seal. -/
theorem Seal_any (c : CaseM) (s : SlipM) (seed : ByteArray) (w : World) (hc : CaseOk w c) (hs : SlipOk w s) (hT : PTabs w) (hz : seed.size ≤ maxLen) :
    Calls Tryd.prog 10 #[caseV c, slipV s, .string seed] w (SheetIs w (sealS c s seed) (sealE c s seed)) := by
  unfold sealS
  by_cases h1 : 64 < seed.size
  · have e : sealE c s seed = 1 := by unfold sealE; rw [if_pos h1]
    rw [e, if_neg (by decide)]
    exact Seal_long c s seed h1 w hc hs hT hz
  · by_cases h2 : rowsE (fitsB c s) (rowsL c s).length = 0
    · have hf : fitsB c s = true ∧ (rowsL c s).length ≤ 1024 := by
        unfold rowsE at h2
        split at h2
        · rename_i hf
          split at h2
          · rename_i hl; exact ⟨hf, hl⟩
          · cases h2
        · cases h2
      have hRR : rowsR c s = rowsL c s := by unfold rowsR; rw [if_pos hf]
      have hs' := Seal_rows c s seed (by omega) (Lib.hid hf.1) hf.2 (rowsL c s) (rowsL c s).length (Lib.hid rfl) (Lib.hid rfl) (okK (rowsL c s) (blindL s.person s.month seed (rowsL c s).length) (rowsL c s).length) (Lib.hid rfl) w hc hs hT hz
      have e : sealE c s seed = if okK (rowsL c s) (blindL s.person s.month seed (rowsL c s).length) (rowsL c s).length = true then 0 else 3 := by
        unfold sealE
        rw [if_neg h1, if_neg (fun h => h h2), hRR]
      rw [e, hRR]
      refine hs'.mono ?_
      intro e w' h
      unfold SealP at h
      split at h
      · rename_i hk
        rw [if_pos hk, if_pos rfl]
        exact h
      · rename_i hk
        rw [if_neg hk, if_neg (by decide)]
        exact h
    · have e : sealE c s seed = rowsE (fitsB c s) (rowsL c s).length := by unfold sealE; rw [if_neg h1, if_pos h2]
      rw [e, if_neg h2]
      exact Seal_err c s seed (by omega) (rowsR c s) (rowsR c s).length _ (Lib.hid rfl) (Lib.hid rfl) (Lib.hid rfl) h2 w hc hs hT hz
end Go.Proofs.YtfjkmhbipkoefaaDoor
