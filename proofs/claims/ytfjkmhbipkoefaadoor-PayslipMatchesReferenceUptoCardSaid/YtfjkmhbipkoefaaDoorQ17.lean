/- The walk of the law package's head (layer 35). -/
import Derived.Test.YtfjkmhbipkoefaaDoorQ16
namespace Go.Proofs.YtfjkmhbipkoefaaDoor
open Go.RowKit Go.Shelf
set_option linter.unusedVariables false
set_option linter.unusedSimpArgs false
set_option maxRecDepth 100000
/-- A list of blinding numbers is in range. -/
theorem okK_blind (rows : List RowD) (person : ByteArray) (month : Int) (seed : ByteArray) (h : ∀ x ∈ rows, inR x.c = true) : okK rows (blindL person month seed rows.length) rows.length = true := by
  refine List.all_eq_true.2 (fun j hj => ?_)
  have hj' := List.mem_range.1 hj
  have e : rows.getD j default = rows[j] := by simp [List.getD, hj']
  have e2 : (blindL person month seed rows.length).getD j 0 = blindI person month seed j := by simp [blindL, List.getD, hj']
  rw [e, e2, h _ (List.getElem_mem hj')]
  have hb := blindI_bd person month seed j
  unfold comE
  rw [if_pos hb]
  rfl
def line1 (FA : Option Addr) : LineM := ⟨8830, 0, 1, 500, FA, 2, [3, 7], none, 0, []⟩
def slip1 (LA FA : Option Addr) : SlipM := ⟨annB, 290, LA, 1, [line1 FA], 500, 50, 0, 0, none, 0, [], 450⟩
theorem day_8830 : dayB 8830 = ⟨#[50, 48, 50, 52, 45, 48, 51, 45, 48, 53]⟩ := by
  have h : Cal.InM 8830 290 := by unfold Cal.InM; decide
  have := dayB_eq h
  rw [show ((8830 : Nat) : Int) = 8830 from rfl] at this
  rw [this]
  decide +kernel
theorem rows1 (LA AA LA' FA : Option Addr) : rowsL (case0 LA AA) (slip1 LA' FA) = R1 := by
  have h : reasonB [12, 14] (line1 FA) = reason0 := by
    unfold reasonB line1
    dsimp only
    rw [day_8830]
    decide +kernel
  unfold rowsL tailR
  have e : rowOf (case0 LA AA).ds (case0 LA AA).nums (case0 LA AA).cur (line1 FA) = [⟨⟨#[98, 97, 115, 105, 99]⟩, 500, reason0⟩] := by
    have h1 := rowOf_one (ds := ds0) (nums := [12, 14]) (cur := ⟨#[69, 85, 82]⟩) (x := line1 FA) (d := ⟨⟨#[98, 97, 115, 105, 99]⟩, ⟨#[69, 85, 82]⟩, 1⟩) rfl rfl (by decide)
    rw [h] at h1
    exact h1
  show [line1 FA].flatMap _ ++ _ = _
  rw [List.flatMap_cons, e]
  rfl
theorem fits1 (LA AA LA' FA : Option Addr) : fitsB (case0 LA AA) (slip1 LA' FA) = true := by
  have h : isNameB annB = true := by decide +kernel
  unfold fitsB
  rw [show (slip1 LA' FA).person = annB from rfl, h]
  rfl
theorem seal1 (LA AA LA' FA : Option Addr) : sealE (case0 LA AA) (slip1 LA' FA) seedX = 0 ∧ sealS (case0 LA AA) (slip1 LA' FA) seedX = ⟨annB, 290, R1, bl1, rootV (leafK R1 bl1 6)⟩ := by
  have hr : rowsR (case0 LA AA) (slip1 LA' FA) = R1 := by unfold rowsR; rw [rows1, if_pos ⟨fits1 _ _ _ _, by decide⟩]
  have hE : sealE (case0 LA AA) (slip1 LA' FA) seedX = 0 := by
    unfold sealE
    rw [if_neg (by decide), fits1, rows1, if_neg (by decide), hr, if_pos (okK_blind R1 _ _ _ (by decide))]
  refine ⟨hE, ?_⟩
  unfold sealS
  rw [if_pos hE, hr]
  have h6 : R1.length = 6 := rfl
  rw [h6, show (slip1 LA' FA).person = annB from rfl, show (slip1 LA' FA).month = 290 from rfl, bl1_eq]
theorem rows1R (LA AA LA' FA : Option Addr) : Hid (rowsR (case0 LA AA) (slip1 LA' FA) = R1) := Lib.hid (by unfold rowsR; rw [rows1, if_pos ⟨fits1 _ _ _ _, by decide⟩])
theorem rows1E (LA AA LA' FA : Option Addr) : Hid (rowsE (fitsB (case0 LA AA) (slip1 LA' FA)) (rowsL (case0 LA AA) (slip1 LA' FA)).length = 0) := Lib.hid (by rw [fits1, rows1]; rfl)
theorem seal1S (LA AA LA' FA : Option Addr) : Hid (sealS (case0 LA AA) (slip1 LA' FA) ⟨#[115, 101, 101, 100]⟩ = ⟨annB, 290, R1, bl1, rootV (leafK R1 bl1 6)⟩) := Lib.hid (seal1 LA AA LA' FA).2
theorem seal1E (LA AA LA' FA : Option Addr) : Hid (sealE (case0 LA AA) (slip1 LA' FA) ⟨#[115, 101, 101, 100]⟩ = 0) := Lib.hid (seal1 LA AA LA' FA).1
def slip0 : SlipM := ⟨⟨#[]⟩, 0, none, 0, [], 0, 0, 0, 0, none, 0, [], 0⟩
def slip2 : SlipM := ⟨annB, 0, none, 0, [], 500000001, 0, 0, 0, none, 0, [], 0⟩
theorem slipOk_nil (s : SlipM) (h1 : s.lines = []) (h2 : s.taken = []) (h3 : s.LA = none) (h4 : s.TA = none) (W : World) (hp : s.person.size ≤ 100) (hm : I64 s.month) (g0 : I64 s.gross) (g1 : I64 s.tax) (g2 : I64 s.deduct) (g3 : I64 s.floor) (g4 : I64 s.net) : SlipOk W s := by
  refine ⟨?_, ?_, ?_, by omega, hm, by rw [h1]; decide, by rw [h2]; decide, ?_, g0, g1, g2, g3, g4⟩
  · rw [h1, h3]; exact Sl.nil _ 6
  · rw [h2, h4]; exact Sl.nil _ 2
  · rw [h1]; intro x hx; cases hx
  · rw [h2]; intro x hx; cases hx
theorem rows0 (LA AA : Option Addr) : rowsE (fitsB (case0 LA AA) slip0) (rowsL (case0 LA AA) slip0).length = 1 ∧ rowsR (case0 LA AA) slip0 = [] := by
  have h : fitsB (case0 LA AA) slip0 = false := by
    have h : isNameB ⟨#[]⟩ = false := by decide +kernel
    unfold fitsB
    rw [show slip0.person = ⟨#[]⟩ from rfl, h]
    rfl
  constructor
  · rw [h]; rfl
  · unfold rowsR; rw [h]; exact if_neg (fun k => absurd k.1 (by decide))
theorem seal2 (LA AA : Option Addr) : sealE (case0 LA AA) slip2 ⟨#[]⟩ = 3 ∧ sealS (case0 LA AA) slip2 ⟨#[]⟩ = ⟨⟨#[]⟩, 0, [], [], 0⟩ := by
  have hf : fitsB (case0 LA AA) slip2 = true := by
    have h : isNameB annB = true := by decide +kernel
    unfold fitsB
    rw [show slip2.person = annB from rfl, h]
    rfl
  have hl : (rowsL (case0 LA AA) slip2) = tailR slip2 := rfl
  have hr : rowsR (case0 LA AA) slip2 = tailR slip2 := by unfold rowsR; rw [hl, if_pos ⟨hf, by decide⟩]
  have hE : sealE (case0 LA AA) slip2 ⟨#[]⟩ = 3 := by
    unfold sealE
    rw [if_neg (by decide), hf, hl, if_neg (by decide), hr, if_neg]
    have : okK (tailR slip2) (blindL slip2.person slip2.month ⟨#[]⟩ (tailR slip2).length) (tailR slip2).length = false := by
      refine List.all_eq_false.2 ⟨0, by decide, ?_⟩
      have e : inR ((tailR slip2).getD 0 default).c = false := by decide
      rw [e]
      simp
    rw [this]
    decide
  exact ⟨hE, by unfold sealS; rw [hE]; rfl⟩
theorem Seal_at (c : CaseM) (s : SlipM) (seed : ByteArray) (cv sv : Value) (hcv : Hid (caseV c = cv)) (hsv : Hid (slipV s = sv)) (d : SheetD) (E : Int) (hd : Hid (sealS c s seed = d)) (hE : Hid (sealE c s seed = E)) (w : World) (hc : CaseOk w c) (hs : SlipOk w s) (hT : PTabs w) (hz : seed.size ≤ maxLen) :
    Calls Tryd.prog 10 #[cv, sv, .string seed] w (SheetIs w d E) := by
  rw [← hcv.out, ← hsv.out, ← hd.out, ← hE.out]
  exact Seal_any c s seed w hc hs hT hz
theorem rows0R (LA AA : Option Addr) : Hid (rowsR (case0 LA AA) slip0 = []) := Lib.hid (rows0 LA AA).2
theorem rows0E (LA AA : Option Addr) : Hid (rowsE (fitsB (case0 LA AA) slip0) (rowsL (case0 LA AA) slip0).length = 1) := Lib.hid (rows0 LA AA).1
theorem seal2S (LA AA : Option Addr) : Hid (sealS (case0 LA AA) slip2 ⟨#[]⟩ = ⟨⟨#[]⟩, 0, [], [], 0⟩) := Lib.hid (seal2 LA AA).2
theorem seal2E (LA AA : Option Addr) : Hid (sealE (case0 LA AA) slip2 ⟨#[]⟩ = 3) := Lib.hid (seal2 LA AA).1
theorem slip0Ok (W : World) : SlipOk W slip0 := slipOk_nil _ rfl rfl rfl rfl W (by decide) ⟨by decide, by decide⟩ ⟨by decide, by decide⟩ ⟨by decide, by decide⟩ ⟨by decide, by decide⟩ ⟨by decide, by decide⟩ ⟨by decide, by decide⟩
theorem slip2Ok (W : World) : SlipOk W slip2 := slipOk_nil _ rfl rfl rfl rfl W (by decide) ⟨by decide, by decide⟩ ⟨by decide, by decide⟩ ⟨by decide, by decide⟩ ⟨by decide, by decide⟩ ⟨by decide, by decide⟩ ⟨by decide, by decide⟩
theorem sl_away {W : World} {size n : Nat} {A : Option Addr} {xs : List Value} {X j : Nat} {cs : Array Value} {t : TypeId} {fr : Nat × Nat} (h : Sl W W.heap.size size A n xs) (hX : W.heap[X]? = some (.cells cs t fr)) (hlt : cs.size < n * size) (v : Value) :
    Sl (W.setCell ⟨X, j, none⟩ v) (W.setCell ⟨X, j, none⟩ v).heap.size size A n xs := by
  refine ⟨h.1, fun h0 => ?_⟩
  obtain ⟨b, off, e, hb, hc⟩ := h.2 h0
  have hne : b ≠ X := by
    intro eb
    subst eb
    have hl : n * size - 1 < xs.length := by rw [h.1]; omega
    have h1 := hc (n * size - 1) _ (List.getElem?_eq_getElem hl)
    rw [Lib.cell_of_heap hX] at h1
    have := (Array.getElem?_eq_some_iff.1 h1).1
    omega
  exact ⟨b, off, e, by simp [World.setCell]; exact hb, fun k u hu => (World.cell?_of_block (Below.heap_setCell _ _ _ _ hne)).trans (hc k u hu)⟩
theorem below_redrew {B : Nat} {a w : World} (h : Below B a w) : Below B a.drew w := ⟨h.os, h.tape, h.output, h.size, h.block⟩
theorem PTabs.cal {w : World} (h : PTabs w) : CaT.Tabs w := h.1
def HeadCut (w3 : World) (s4 s5 : Value) (wx : World) : Prop :=
  ∃ X A ca B cb, s4 = .pointer (some ⟨X, 0, none⟩) ∧ s5 = .int .i64 0 ∧ wx.heap[X]? = some (.cells #[.string annB, .int .i64 290, .slice A 6 ca, .slice B 6 cb, .int .u64 (rootV (leafK R1 bl1 6)).toNat] 43 (0, 0)) ∧ Sl wx wx.heap.size 3 A 6 (rowsV R1) ∧ Sl wx wx.heap.size 1 B 6 (intV bl1) ∧ (6 ≤ ca ∧ ca ≤ maxLen) ∧ (6 ≤ cb ∧ cb ≤ maxLen) ∧ w3.heap.size ≤ X ∧ Below w3.heap.size w3 wx
theorem heap_set5 (W : World) (X b : Nat) (v0 v1 v2 v3 v4 : Value) (h : b ≠ X) : (((((W.setCell ⟨X, 0, none⟩ v0).setCell ⟨X, 1, none⟩ v1).setCell ⟨X, 2, none⟩ v2).setCell ⟨X, 3, none⟩ v3).setCell ⟨X, 4, none⟩ v4).heap[b]? = W.heap[b]? :=
  (Below.heap_setCell _ _ _ _ h).trans ((Below.heap_setCell _ _ _ _ h).trans ((Below.heap_setCell _ _ _ _ h).trans ((Below.heap_setCell _ _ _ _ h).trans (Below.heap_setCell _ _ _ _ h))))
/-- A payslip is stored in a box that was made for it. -/
theorem headCut_of {w3 W : World} {X : Nat} {A B : Option Addr} {ca cb : Nat} {cs : Array Value} (hX : W.heap[X]? = some (.cells cs 43 (0, 0))) (hcs : cs.size = 5) (hA : Sl W W.heap.size 3 A 6 (rowsV R1)) (hB : Sl W W.heap.size 1 B 6 (intV bl1)) (hca : 6 ≤ ca ∧ ca ≤ maxLen) (hcb : 6 ≤ cb ∧ cb ≤ maxLen) (hX3 : w3.heap.size ≤ X) (hb : Below w3.heap.size w3 W) :
    HeadCut w3 (.pointer (some ⟨X, 0, none⟩)) (.int .i64 0) (((((W.setCell ⟨X, 0, none⟩ (.string annB)).setCell ⟨X, 1, none⟩ (.int .i64 290)).setCell ⟨X, 2, none⟩ (.slice A 6 ca)).setCell ⟨X, 3, none⟩ (.slice B 6 cb)).setCell ⟨X, 4, none⟩ (.int .u64 (rootV (leafK R1 bl1 6)).toNat)) := by
  obtain ⟨root, hroot⟩ : ∃ r, (rootV (leafK R1 bl1 6)).toNat = r := ⟨_, rfl⟩
  refine ⟨X, A, ca, B, cb, rfl, rfl, ?_, ?_, ?_, hca, hcb, hX3, ?_⟩
  · rw [hroot, setCell_heap (setCell_heap (setCell_heap (setCell_heap (setCell_heap hX))))]
    obtain ⟨l⟩ := cs
    match l, hcs with
    | [a, b, c, d, e], _ => rfl
  · have h0 := sl_away (j := 0) hA hX (by omega) (.string annB)
    have h1 := sl_away (j := 1) h0 (setCell_heap hX) (by simp; omega) (.int .i64 290)
    have h2 := sl_away (j := 2) h1 (setCell_heap (setCell_heap hX)) (by simp; omega) (.slice A 6 ca)
    have h3 := sl_away (j := 3) h2 (setCell_heap (setCell_heap (setCell_heap hX))) (by simp; omega) (.slice B 6 cb)
    exact sl_away (j := 4) h3 (setCell_heap (setCell_heap (setCell_heap (setCell_heap hX)))) (by simp; omega) _
  · have h0 := sl_away (j := 0) hB hX (by omega) (.string annB)
    have h1 := sl_away (j := 1) h0 (setCell_heap hX) (by simp; omega) (.int .i64 290)
    have h2 := sl_away (j := 2) h1 (setCell_heap (setCell_heap hX)) (by simp; omega) (.slice A 6 ca)
    have h3 := sl_away (j := 3) h2 (setCell_heap (setCell_heap (setCell_heap hX))) (by simp; omega) (.slice B 6 cb)
    exact sl_away (j := 4) h3 (setCell_heap (setCell_heap (setCell_heap (setCell_heap hX)))) (by simp; omega) _
  · exact ((((hb.setCell hX3 _).setCell hX3 _).setCell hX3 _).setCell hX3 _).setCell hX3 _
theorem own_cap0 (W : World) (cur : Array Value) (k : Nat) (e : TypeId) (size : Nat) (h : cur.size = k * size) (hk : k ≤ maxLen) : (W.alloc (.cells cur e)).drew.ownsRow W.heap.size e size (.slice (some ⟨W.heap.size, 0, none⟩) 0 k) 0 [] :=
  ⟨by simp, .inr ⟨W.heap.size, k, cur, rfl, Nat.le_refl _, World.alloc_heap_new W _, Nat.zero_le _, hk, h, by simp⟩⟩
theorem sl_src {W : World} {size n : Nat} {A : Option Addr} {xs : List Value} (h : Sl W W.heap.size size A n xs) (hn : 0 < n) (c : Nat) : Src W size (.slice A n c) n xs := by
  obtain ⟨b, off, rfl, hb, hc⟩ := h.2 hn
  exact .inr ⟨_, c, rfl, h.1, fun j u hu => by rw [Addr.add_lit]; exact hc j u hu⟩
theorem sl_set0 {W : World} {B n : Nat} {xs : List Value} {cs : Array Value} {t : TypeId} {fr : Nat × Nat} {v : Value} (hB : W.heap[B]? = some (.cells cs t fr)) (h : Sl W W.heap.size 1 (some ⟨B, 0, none⟩) n xs) (hn : 0 < n) : Sl (W.setCell ⟨B, 0, none⟩ v) (W.setCell ⟨B, 0, none⟩ v).heap.size 1 (some ⟨B, 0, none⟩) n (xs.set 0 v) := by
  refine ⟨by rw [List.length_set]; exact h.1, fun _ => ?_⟩
  obtain ⟨b, off, e, hb, hc⟩ := h.2 hn
  injection e with e; injection e with e1 e2
  subst e1; subst e2
  refine ⟨B, 0, rfl, by simp [World.setCell]; exact hb, fun k u hu => ?_⟩
  rw [Lib.cell_of_heap (setCell_heap hB)]
  have hx0 : 0 < xs.length := by have := h.1; omega
  have h0 := hc 0 _ (List.getElem?_eq_getElem hx0)
  rw [Lib.cell_of_heap hB] at h0
  have hcs := (Array.getElem?_eq_some_iff.1 h0).1
  by_cases hk : k = 0
  · subst hk
    rw [Nat.zero_add]
    rw [Array.getElem?_setIfInBounds_self_of_lt (by simpa using hcs)]
    rw [List.getElem?_set_self hx0] at hu
    exact hu
  · have := hc k u (by simpa [Ne.symm hk] using hu)
    rw [Lib.cell_of_heap hB] at this
    simp only [Nat.zero_add] at this ⊢
    rw [Array.getElem?_setIfInBounds_ne (by omega)]
    exact this
theorem cell_first {W : World} {B : Nat} {xs : List Value} {v : Value} {n : Nat} (h : Sl W W.heap.size 1 (some ⟨B, 0, none⟩) (n + 1) (v :: xs)) : W.cell? ⟨B, 0, none⟩ = some v := by
  obtain ⟨b, off, e, hb, hc⟩ := h.2 (by omega)
  injection e with e; injection e with e1 e2
  subst e1; subst e2
  exact hc 0 v rfl
def Cut9 (w3 W8 : World) (X : Nat) (A : Option Addr) (ca : Nat) (root : UInt64) (s4 : Value) (wx : World) : Prop :=
  s4 = .pointer (some ⟨X, 0, none⟩) ∧ ∃ B cb cs, wx.heap[X]? = some (.cells #[.string annB, .int .i64 290, .slice A 6 ca, .slice (some ⟨B, 0, none⟩) 6 cb, .int .u64 root.toNat] 43 (0, 0)) ∧ wx.heap[B]? = some (.cells cs 3 (0, 0)) ∧ (6 ≤ cs.size) ∧ Sl wx wx.heap.size 3 A 6 (rowsV R1) ∧ Sl wx wx.heap.size 1 (some ⟨B, 0, none⟩) 6 (intV bl1) ∧ W8.heap.size ≤ B ∧ Below w3.heap.size w3 wx
theorem cut9_of {w3 W8 W : World} {X : Nat} {A B : Option Addr} {ca cb n : Nat} {v : Value} {root : UInt64} (hn : n = 6) (gX : W.heap[X]? = some (.cells #[.string annB, .int .i64 290, .slice A 6 ca, v, .int .u64 root.toNat] 43 (0, 0))) (hown : W.ownsRow W8.heap.size 3 1 (.slice B n cb) n (intV bl1)) (hA : Sl W W.heap.size 3 A 6 (rowsV R1)) (hb : Below w3.heap.size w3 W) (hX : X < W8.heap.size) (hX3 : w3.heap.size ≤ X) :
    Cut9 w3 W8 X A ca root (.pointer (some ⟨X, 0, none⟩)) (W.setCell ⟨X, 3, none⟩ (.slice B n cb)) := by
  subst hn
  have hS := own_sl hown
  rcases hown.2 with ⟨_, h0⟩ | ⟨g, cap, cur, hv, h1, h2, h3, h4, h5, h6⟩
  · cases h0
  injection hv with e1 e2 e3
  subst e1; subst e3
  refine ⟨rfl, g, cb, cur, ?_, (Below.heap_setCell _ _ _ _ (show g ≠ X by omega)).trans h2, by rw [h5]; omega, sl_away hA gX (by simp) _, sl_away hS gX (by simp) _, h1, hb.setCell hX3 _⟩
  rw [setCell_heap gX]
  rfl
theorem sl_off {W W8 : World} {size n B : Nat} {A : Option Addr} {xs : List Value} {v : Value} (h : Sl W W.heap.size size A n xs) (h8 : Sl W8 W8.heap.size size A n xs) (hB : W8.heap.size ≤ B) : Sl (W.setCell ⟨B, 0, none⟩ v) (W.setCell ⟨B, 0, none⟩ v).heap.size size A n xs := by
  refine ⟨h.1, fun h0 => ?_⟩
  obtain ⟨b, off, e, hb, hc⟩ := h.2 h0
  obtain ⟨b', off', e', hb', _⟩ := h8.2 h0
  rw [e] at e'
  injection e' with e'; injection e' with e1 e2
  subst e1
  exact ⟨b, off, e, by simp [World.setCell]; exact hb, fun k u hu => (World.cell?_of_block (Below.heap_setCell _ _ _ _ (show b ≠ B by omega))).trans (hc k u hu)⟩
theorem valid0 (w : World) (hT : PTabs w) : Calls Tryd.prog 14 #[.agg #[.string ⟨#[]⟩, .int .i64 0, .slice none 0 0, .slice none 0 0, .int .u64 0]] w fun e w' => e = .returned (.bool false) ∧ Below w.heap.size w w' :=
  valid35_any ⟨#[]⟩ 0 none none 0 0 0 0 [] [] 0 false (Lib.hid (by unfold validB; rw [show isNameB ⟨#[]⟩ = false from by decide +kernel]; rfl)) w hT (Sl.nil _ _) (Sl.nil _ _) rfl rfl (by decide) (by decide) (by decide) (fun x h => by cases h) (fun x h => by cases h)
theorem valid2 (A B : Option Addr) (ca cb : Nat) (root : UInt64) (hr : Hid (rootV (leafK R1 bl1 6) = root)) (w : World) (hT : PTabs w) (hA : Sl w w.heap.size 3 A 6 (rowsV R1)) (hB : Sl w w.heap.size 1 B 6 (intV bl2)) : Calls Tryd.prog 14 #[.agg #[.string ⟨#[97, 110, 110]⟩, .int .i64 290, .slice A 6 ca, .slice B 6 cb, .int .u64 root.toNat]] w fun e w' => e = .returned (.bool false) ∧ Below w.heap.size w w' :=
  valid35_any ⟨#[97, 110, 110]⟩ 290 A B ca cb 6 6 R1 bl2 root false (Lib.hid (by unfold validB; rw [show R1.length = 6 from rfl, ← hr.out, root_ne, Bool.and_false])) w hT hA hB rfl rfl (by decide) (by decide) (by decide) (by unfold I64; decide +kernel) (by unfold I64; decide +kernel)
set_option maxHeartbeats 8000000 in
theorem head_any (w : World) (hT : PTabs w) : Calls Tryd.prog 4 #[] w fun e w' => e = .returned (.bool true) ∧ Below w.heap.size w w' := by
  go_enter Tryd.func4, Tryd.ntmps4
  go_upto_region 2 with fail
  obtain ⟨W, hW⟩ : ∃ W, W = ((w.alloc (.cells #[.int .i64 3, .int .i64 7] 3)).alloc (.cells #[.int .i64 8830, .int .i64 0, .int .i64 1, .int .i64 500, .slice (some ⟨w.heap.size, 0, none⟩) 2 2, .slice none 0 0] 62)).alloc (.cells #[.string ⟨#[97, 110, 110]⟩, .int .i64 290, .slice (some ⟨w.heap.size + 1, 0, none⟩) 1 1, .int .i64 500, .int .i64 50, .int .i64 0, .int .i64 0, .slice none 0 0, .int .i64 450] 37) := ⟨_, rfl⟩
  rw [← hW]
  have q0 : W.heap[w.heap.size]? = some (.cells #[.int .i64 3, .int .i64 7] 3 (0, 0)) := by
    rw [hW]; exact (Below.heap_alloc _ _ _ (by simp; omega)).trans (heap_alloc2_old w _ _)
  have q1 : W.heap[w.heap.size + 1]? = some (.cells #[.int .i64 8830, .int .i64 0, .int .i64 1, .int .i64 500, .slice (some ⟨w.heap.size, 0, none⟩) 2 2, .slice none 0 0] 62 (0, 0)) := by
    rw [hW]; exact (Below.heap_alloc _ _ _ (by simp)).trans (heap_alloc2_new w _ _)
  have q2 : W.heap[w.heap.size + 1 + 1]? = some (.cells #[.string ⟨#[97, 110, 110]⟩, .int .i64 290, .slice (some ⟨w.heap.size + 1, 0, none⟩) 1 1, .int .i64 500, .int .i64 50, .int .i64 0, .int .i64 0, .slice none 0 0, .int .i64 450] 37 (0, 0)) := by
    rw [hW]
    have := World.alloc_heap_new ((w.alloc (.cells #[.int .i64 3, .int .i64 7] 3)).alloc (.cells #[.int .i64 8830, .int .i64 0, .int .i64 1, .int .i64 500, .slice (some ⟨w.heap.size, 0, none⟩) 2 2, .slice none 0 0] 62)) (.cells #[.string ⟨#[97, 110, 110]⟩, .int .i64 290, .slice (some ⟨w.heap.size + 1, 0, none⟩) 1 1, .int .i64 500, .int .i64 50, .int .i64 0, .int .i64 0, .slice none 0 0, .int .i64 450] 37)
    rwa [show ((w.alloc (.cells #[.int .i64 3, .int .i64 7] 3)).alloc (.cells #[.int .i64 8830, .int .i64 0, .int .i64 1, .int .i64 500, .slice (some ⟨w.heap.size, 0, none⟩) 2 2, .slice none 0 0] 62)).heap.size = w.heap.size + 1 + 1 by simp] at this
  have hB : Below w.heap.size w W := by rw [hW]; exact bal (bal (bal (Below.refl _ _) _) _) _
  have hsz : W.heap.size = w.heap.size + 3 := by rw [hW]; simp
  have hs1 : SlipOk W (slip1 (some ⟨w.heap.size + 1, 0, none⟩) (some ⟨w.heap.size, 0, none⟩)) := by
    refine ⟨sl_cells q1 rfl rfl, Sl.nil _ 2, ?_, (show annB.size ≤ 70000000000000 by decide), (by unfold I64 slip1; dsimp only; omega), (show 1 ≤ 1000000 by decide), (show 0 ≤ 1000000 by decide), ?_, (by unfold I64 slip1; dsimp only; omega), (by unfold I64 slip1; dsimp only; omega), (by unfold I64 slip1; dsimp only; omega), (by unfold I64 slip1; dsimp only; omega), (by unfold I64 slip1; dsimp only; omega)⟩
    · intro x hx
      obtain rfl := List.mem_singleton.1 hx
      refine ⟨sl_cells q0 rfl rfl, Sl.nil _ 1, (show 2 ≤ 1000 by decide), (show 0 ≤ 1000 by decide), ?_, ?_, (by unfold I64 line1; dsimp only; omega)⟩
      · intro y hy
        have : y = 3 ∨ y = 7 := by simpa [line1] using hy
        unfold I64; omega
      · intro y hy; cases hy
    · intro x hx; cases hx
  obtain ⟨sb, hsb⟩ : ∃ b, b = w.heap.size + 1 + 1 := ⟨_, rfl⟩
  obtain ⟨lb, hlb⟩ : ∃ b, b = w.heap.size + 1 := ⟨_, rfl⟩
  obtain ⟨fb, hfb⟩ : ∃ b, b = w.heap.size := ⟨_, rfl⟩
  rw [← hsb, ← hlb] at q2
  rw [← hsb, ← hlb, ← hfb]
  rw [← hlb, ← hfb] at hs1
  have hsl : sb < W.heap.size := by omega
  have Hsv : Hid (slipV (slip1 (some ⟨lb, 0, none⟩) (some ⟨fb, 0, none⟩)) = .agg #[.string ⟨#[97, 110, 110]⟩, .int .i64 290, .slice (some ⟨lb, 0, none⟩) 1 1, .int .i64 500, .int .i64 50, .int .i64 0, .int .i64 0, .slice none 0 0, .int .i64 450]) := Lib.hid rfl
  have Q2 := Lib.hid q2
  have Hs1 := Lib.hid hs1
  clear q0 q1 q2 hs1 hW hsb hlb hfb hsz
  have hsd : sb < W.drew.heap.size := hsl
  have hTd : PTabs W.drew := hT.go hB.drew
  have HSd := Lib.hid (Hs1.out.go (Below.refl W.heap.size W).drew)
  refine wp_region_noPanic ?_
  refine wp_region_held_drew (S := fun W' => W'.heap[sb]? = some (.cells #[.string ⟨#[97, 110, 110]⟩, .int .i64 290, .slice (some ⟨lb, 0, none⟩) 1 1, .int .i64 500, .int .i64 50, .int .i64 0, .int .i64 0, .slice none 0 0, .int .i64 450] 37 (0, 0))) (by kernel_rfl) Q2.out (fun hHeld => ?_)
  refine wpAnyH_take (i := 1) (v := ?_) rfl (by kernel_rfl) (by kernel_rfl) (by kernel_rfl) (fun _ _ _ h => h) (Or.inl ⟨by kernel_rfl, ?_⟩) (by assumption) ?_
  rotate_left
  · intro w hSw
    (try dsimp only at hSw)
    have z0 : w.cell? ⟨sb, 0, none⟩ = some (.string ⟨#[97, 110, 110]⟩) := by rw [Lib.cell_of_heap hSw]; rfl
    have z1 : w.cell? ⟨sb, 1, none⟩ = some (.int .i64 290) := by rw [Lib.cell_of_heap hSw]; rfl
    have z2 : w.cell? ⟨sb, 2, none⟩ = some (.slice (some ⟨lb, 0, none⟩) 1 1) := by rw [Lib.cell_of_heap hSw]; rfl
    have z3 : w.cell? ⟨sb, 3, none⟩ = some (.int .i64 500) := by rw [Lib.cell_of_heap hSw]; rfl
    have z4 : w.cell? ⟨sb, 4, none⟩ = some (.int .i64 50) := by rw [Lib.cell_of_heap hSw]; rfl
    have z5 : w.cell? ⟨sb, 5, none⟩ = some (.int .i64 0) := by rw [Lib.cell_of_heap hSw]; rfl
    have z6 : w.cell? ⟨sb, 6, none⟩ = some (.int .i64 0) := by rw [Lib.cell_of_heap hSw]; rfl
    have z7 : w.cell? ⟨sb, 7, none⟩ = some (.slice none 0 0) := by rw [Lib.cell_of_heap hSw]; rfl
    have z8 : w.cell? ⟨sb, 8, none⟩ = some (.int .i64 450) := by rw [Lib.cell_of_heap hSw]; rfl
    clear hSw
    go_simp
    first | done | with_reducible rfl
  simp only [List.getElem_toArray, List.getElem_cons_zero, List.getElem_cons_succ, Act.put, List.setIfInBounds_toArray, List.set_cons_zero, List.set_cons_succ]
  refine wpAnyH_ready (rs := [0]) (by kernel_rfl) (by simp) ?_
  refine AllReadyH.cons rfl (fun K hK => ?_) AllReadyH.nil
  simp only [List.getElem_toArray, List.getElem_cons_zero, List.getElem_cons_succ]
  go_simp
  (with_reducible refine (case_any W.drew).mono ?_)
  rintro e w2 hcp
  obtain ⟨LA2, AA2, rfl, hc2, hB2⟩ := hcp
  dsimp only
  have hD2 : Below W.drew.heap.size W.drew w2 := hB2
  refine hK.out _ _ ((hD2.block _ hsd).trans Q2.out) (fun hHeld => ?_)
  clear hK K
  try simp only [List.getElem_toArray, List.getElem_cons_zero, List.getElem_cons_succ, Act.put, List.setIfInBounds_toArray, List.set_cons_zero, List.set_cons_succ]
  refine wpAnyH_ready (rs := [2]) (by kernel_rfl) (by simp) ?_
  refine AllReadyH.cons rfl (fun K hK => ?_) AllReadyH.nil
  simp only [List.getElem_toArray, List.getElem_cons_zero, List.getElem_cons_succ]
  go_simp
  (with_reducible refine (Rows_at (case0 LA2 AA2) (slip1 (some ⟨lb, 0, none⟩) (some ⟨fb, 0, none⟩)) _ _ (Lib.hid rfl) Hsv R1 6 0 (rows1R LA2 AA2 _ _) (Lib.hid rfl) (rows1E LA2 AA2 _ _) w2 hc2 (HSd.out.go hD2) (hTd.go hD2).cal).mono ?_)
  rintro e w3 ⟨A3, ca3, rfl, hca3, hA3, hB3⟩
  dsimp only
  have hD3 := bgo hD2 hB3
  refine hK.out _ _ ((hD3.block _ hsd).trans Q2.out) (fun hHeld => ?_)
  clear hK K
  try simp only [List.getElem_toArray, List.getElem_cons_zero, List.getElem_cons_succ, Act.put, List.setIfInBounds_toArray, List.set_cons_zero, List.set_cons_succ]
  refine wpAnyH_take (i := 3) (v := ?_) rfl (by kernel_rfl) (by kernel_rfl) (by kernel_rfl) (fun _ _ _ h => h) (Or.inl ⟨by kernel_rfl, ?_⟩) (by assumption) ?_
  rotate_left
  · intro w hSw
    (try dsimp only at hSw)
    go_simp
    first | done | with_reducible rfl
  simp only [List.getElem_toArray, List.getElem_cons_zero, List.getElem_cons_succ, Act.put, List.setIfInBounds_toArray, List.set_cons_zero, List.set_cons_succ]
  refine wpAnyH_take (i := 4) (v := ?_) rfl (by kernel_rfl) (by kernel_rfl) (by kernel_rfl) (fun _ _ _ h => h) (Or.inl ⟨by kernel_rfl, ?_⟩) (by assumption) ?_
  rotate_left
  · intro w hSw
    (try dsimp only at hSw)
    go_simp
    first | done | with_reducible rfl
  simp only [List.getElem_toArray, List.getElem_cons_zero, List.getElem_cons_succ, Act.put, List.setIfInBounds_toArray, List.set_cons_zero, List.set_cons_succ]
  refine wpAnyH_take (i := 5) (v := ?_) rfl (by kernel_rfl) (by kernel_rfl) (by kernel_rfl) (fun _ _ _ h => h) (Or.inl ⟨by kernel_rfl, ?_⟩) (by assumption) ?_
  rotate_left
  · intro w hSw
    (try dsimp only at hSw)
    go_simp
    first | done | with_reducible rfl
  simp only [List.getElem_toArray, List.getElem_cons_zero, List.getElem_cons_succ, Act.put, List.setIfInBounds_toArray, List.set_cons_zero, List.set_cons_succ]
  refine wpAnyH_take (i := 6) (v := ?_) rfl (by kernel_rfl) (by kernel_rfl) (by kernel_rfl) (fun _ _ _ h => h) (Or.inl ⟨by kernel_rfl, ?_⟩) (by assumption) ?_
  rotate_left
  · intro w hSw
    (try dsimp only at hSw)
    go_simp
    first | done | with_reducible rfl
  simp only [List.getElem_toArray, List.getElem_cons_zero, List.getElem_cons_succ, Act.put, List.setIfInBounds_toArray, List.set_cons_zero, List.set_cons_succ]
  refine wpAnyH_take (i := 7) (v := ?_) rfl (by kernel_rfl) (by kernel_rfl) (by kernel_rfl) (fun _ _ _ h => h) (Or.inl ⟨by kernel_rfl, ?_⟩) (by assumption) ?_
  rotate_left
  · intro w hSw
    (try dsimp only at hSw)
    go_simp
    first | done | with_reducible rfl
  simp only [List.getElem_toArray, List.getElem_cons_zero, List.getElem_cons_succ, Act.put, List.setIfInBounds_toArray, List.set_cons_zero, List.set_cons_succ]
  refine wpAnyH_done (by kernel_rfl) ?_ _
  dsimp only [NoPanic]
  clear hHeld
  have hB03 : Below w.heap.size w w3 := bgo hB.drew hD3
  have Hs3 := Lib.hid (HSd.out.go hD3)
  have Q3 := Lib.hid ((hD3.block _ hsd).trans Q2.out)
  have hs3 : sb < w3.heap.size := Nat.lt_of_lt_of_le hsd hD3.size
  have HA3 := Lib.hid (own_sl hA3)
  clear hc2 hD2 hB2 hD3 hB3 hA3 hTd
  go_upto_region 3 with fail
  go_cut [4, 5] (fun s4 s5 wx => HeadCut w3 s4 s5 wx)
  case first =>
    have hs3d : sb < w3.drew.heap.size := hs3
    have Q3d : Hid (w3.drew.heap[sb]? = some (.cells #[.string ⟨#[97, 110, 110]⟩, .int .i64 290, .slice (some ⟨lb, 0, none⟩) 1 1, .int .i64 500, .int .i64 50, .int .i64 0, .int .i64 0, .slice none 0 0, .int .i64 450] 37 (0, 0))) := Lib.hid Q3.out
    have hT3 : PTabs w3.drew := hT.go hB03.drew
    have Hs3d := Lib.hid (Hs3.out.go (Below.refl w3.heap.size w3).drew)
    have bel0 : Below w3.drew.heap.size w3.drew w3.drew := Below.refl _ _
    refine wp_region_noPanic ?_
    refine wp_region_held_drew (S := fun W' => W'.heap[sb]? = some (.cells #[.string ⟨#[97, 110, 110]⟩, .int .i64 290, .slice (some ⟨lb, 0, none⟩) 1 1, .int .i64 500, .int .i64 50, .int .i64 0, .int .i64 0, .slice none 0 0, .int .i64 450] 37 (0, 0))) (by kernel_rfl) Q3d.out (fun hHeld => ?_)
    refine wpAnyH_take (i := 1) (v := ?_) rfl (by kernel_rfl) (by kernel_rfl) (by kernel_rfl) (fun _ _ _ h => h) (Or.inl ⟨by kernel_rfl, ?_⟩) (by assumption) ?_
    rotate_left
    · intro w hSw
      (try dsimp only at hSw)
      have z0 : w.cell? ⟨sb, 0, none⟩ = some (.string ⟨#[97, 110, 110]⟩) := by rw [Lib.cell_of_heap hSw]; rfl
      have z1 : w.cell? ⟨sb, 1, none⟩ = some (.int .i64 290) := by rw [Lib.cell_of_heap hSw]; rfl
      have z2 : w.cell? ⟨sb, 2, none⟩ = some (.slice (some ⟨lb, 0, none⟩) 1 1) := by rw [Lib.cell_of_heap hSw]; rfl
      have z3 : w.cell? ⟨sb, 3, none⟩ = some (.int .i64 500) := by rw [Lib.cell_of_heap hSw]; rfl
      have z4 : w.cell? ⟨sb, 4, none⟩ = some (.int .i64 50) := by rw [Lib.cell_of_heap hSw]; rfl
      have z5 : w.cell? ⟨sb, 5, none⟩ = some (.int .i64 0) := by rw [Lib.cell_of_heap hSw]; rfl
      have z6 : w.cell? ⟨sb, 6, none⟩ = some (.int .i64 0) := by rw [Lib.cell_of_heap hSw]; rfl
      have z7 : w.cell? ⟨sb, 7, none⟩ = some (.slice none 0 0) := by rw [Lib.cell_of_heap hSw]; rfl
      have z8 : w.cell? ⟨sb, 8, none⟩ = some (.int .i64 450) := by rw [Lib.cell_of_heap hSw]; rfl
      clear hSw
      go_simp
      first | done | with_reducible rfl
    simp only [List.getElem_toArray, List.getElem_cons_zero, List.getElem_cons_succ, Act.put, List.setIfInBounds_toArray, List.set_cons_zero, List.set_cons_succ]
    refine wpAnyH_ready (rs := [0, 6]) (by kernel_rfl) (by simp) ?_
    refine AllReadyH.cons rfl (fun K hK => ?_) ?_
    · simp only [List.getElem_toArray, List.getElem_cons_zero, List.getElem_cons_succ]
      go_simp
      (with_reducible refine (case_any w3.drew).mono ?_)
      rintro e w_0 hcp
      obtain ⟨LA_0, AA_0, rfl, hc_0, hB_0⟩ := hcp
      dsimp only
      have bel_0 := bgo bel0 hB_0
      refine hK.out _ _ ((bel_0.block _ hs3d).trans Q3d.out) (fun hHeld => ?_)
      clear hK K
      try simp only [List.getElem_toArray, List.getElem_cons_zero, List.getElem_cons_succ, Act.put, List.setIfInBounds_toArray, List.set_cons_zero, List.set_cons_succ]
      refine wpAnyH_ready (rs := [2, 6]) (by kernel_rfl) (by simp) ?_
      refine AllReadyH.cons rfl (fun K hK => ?_) ?_
      · simp only [List.getElem_toArray, List.getElem_cons_zero, List.getElem_cons_succ]
        go_simp
        (with_reducible refine (Seal_at (case0 LA_0 AA_0) (slip1 (some ⟨lb, 0, none⟩) (some ⟨fb, 0, none⟩)) ⟨#[115, 101, 101, 100]⟩ _ _ (Lib.hid rfl) Hsv ⟨annB, 290, R1, bl1, rootV (leafK R1 bl1 6)⟩ 0 (seal1S _ _ _ _) (seal1E _ _ _ _) w_0 hc_0 (Hs3d.out.go bel_0) (hT3.go bel_0) (by decide)).mono ?_)
        rintro e w_02 hsh
        obtain ⟨A_, ca_, B_, cb_, rfl, hca_, hcb_, hSA_02, hSB_02, hB_02⟩ := hsh
        dsimp only at hca_ hcb_ hSA_02 hSB_02 ⊢
        have bel_02 := bgo bel_0 hB_02
        refine hK.out _ _ ((bel_02.block _ hs3d).trans Q3d.out) (fun hHeld => ?_)
        clear hK K
        try simp only [List.getElem_toArray, List.getElem_cons_zero, List.getElem_cons_succ, Act.put, List.setIfInBounds_toArray, List.set_cons_zero, List.set_cons_succ]
        refine wpAnyH_take (i := 3) (v := ?_) rfl (by kernel_rfl) (by kernel_rfl) (by kernel_rfl) (fun _ _ _ h => h) (Or.inl ⟨by kernel_rfl, ?_⟩) (by assumption) ?_
        rotate_left
        · intro w hSw
          (try dsimp only at hSw)
          go_simp
          first | done | with_reducible rfl
        simp only [List.getElem_toArray, List.getElem_cons_zero, List.getElem_cons_succ, Act.put, List.setIfInBounds_toArray, List.set_cons_zero, List.set_cons_succ]
        refine wpAnyH_take (i := 4) (v := ?_) rfl (by kernel_rfl) (by kernel_rfl) (by kernel_rfl) (fun _ _ _ h => h) (Or.inl ⟨by kernel_rfl, ?_⟩) (by assumption) ?_
        rotate_left
        · intro w hSw
          (try dsimp only at hSw)
          go_simp
          first | done | with_reducible rfl
        simp only [List.getElem_toArray, List.getElem_cons_zero, List.getElem_cons_succ, Act.put, List.setIfInBounds_toArray, List.set_cons_zero, List.set_cons_succ]
        refine wpAnyH_take (i := 5) (v := ?_) rfl (by kernel_rfl) (by kernel_rfl) (by kernel_rfl) (fun _ _ _ h => h) (Or.inl ⟨by kernel_rfl, ?_⟩) (by assumption) ?_
        rotate_left
        · intro w hSw
          (try dsimp only at hSw)
          go_simp
          first | done | with_reducible rfl
        simp only [List.getElem_toArray, List.getElem_cons_zero, List.getElem_cons_succ, Act.put, List.setIfInBounds_toArray, List.set_cons_zero, List.set_cons_succ]
        refine wpAnyH_ready (rs := [6]) (by kernel_rfl) (by simp) ?_
        refine AllReadyH.cons rfl (fun K hK => ?_) ?_
        · simp only [List.getElem_toArray, List.getElem_cons_zero, List.getElem_cons_succ]
          go_simp
          refine hK.out _ _ (((bal bel_02 _).block _ hs3d).trans Q3d.out) (fun hHeld => ?_)
          obtain ⟨X_026, hX_026⟩ : ∃ x, x = w_02.heap.size := ⟨_, rfl⟩
          obtain ⟨w_026, hw_026⟩ : ∃ x, x = w_02.alloc (.cells #[.string ⟨#[]⟩, .int .i64 0, .slice none 0 0, .slice none 0 0, .int .u64 0] 43) := ⟨_, rfl⟩
          rw [← hw_026, ← hX_026]
          have bel_026 : Below w3.drew.heap.size w3.drew w_026 := by rw [hw_026]; exact bal bel_02 _
          have gX_026 : w_026.heap[X_026]? = some (.cells #[.string ⟨#[]⟩, .int .i64 0, .slice none 0 0, .slice none 0 0, .int .u64 0] 43) := by rw [hw_026, hX_026]; exact World.alloc_heap_new w_02 _
          have hX3_026 : w3.drew.heap.size ≤ X_026 := by rw [hX_026]; exact bel_02.size
          have hSA_026 : Sl w_026 w_026.heap.size 3 A_ 6 (rowsV R1) := by rw [hw_026]; exact hSA_02.al _
          have hSB_026 : Sl w_026 w_026.heap.size 1 B_ 6 (intV bl1) := by rw [hw_026]; exact hSB_02.al _
          clear hw_026 hX_026
          clear hK K
          try simp only [List.getElem_toArray, List.getElem_cons_zero, List.getElem_cons_succ, Act.put, List.setIfInBounds_toArray, List.set_cons_zero, List.set_cons_succ]
          refine wpAnyH_ready (rs := [7]) (by kernel_rfl) (by simp) ?_
          refine AllReadyH.cons rfl (fun K hK => ?_) ?_
          · simp only [List.getElem_toArray, List.getElem_cons_zero, List.getElem_cons_succ]
            have x0 : w_026.cell? ⟨X_026, 0, none⟩ = some (.string ⟨#[]⟩) := by rw [Lib.cell_of_heap gX_026]; rfl
            have x1 : w_026.cell? ⟨X_026, 1, none⟩ = some (.int .i64 0) := by rw [Lib.cell_of_heap gX_026]; rfl
            have x2 : w_026.cell? ⟨X_026, 2, none⟩ = some (.slice none 0 0) := by rw [Lib.cell_of_heap gX_026]; rfl
            have x3 : w_026.cell? ⟨X_026, 3, none⟩ = some (.slice none 0 0) := by rw [Lib.cell_of_heap gX_026]; rfl
            have x4 : w_026.cell? ⟨X_026, 4, none⟩ = some (.int .u64 0) := by rw [Lib.cell_of_heap gX_026]; rfl
            have yX : ∀ j, w_026.frozen? ⟨X_026, j, none⟩ = false := fun j => Lib.frozen_of_heap gX_026 j
            go_simp
            clear x0 x1 x2 x3 x4 yX
            refine hK.out _ _ ((heap_set5 _ _ _ _ _ _ _ _ (by have := hX3_026; have := hs3d; omega)).trans ((bel_026.block _ hs3d).trans Q3d.out)) (fun hHeld => ?_)
            clear hK K
            try simp only [List.getElem_toArray, List.getElem_cons_zero, List.getElem_cons_succ, Act.put, List.setIfInBounds_toArray, List.set_cons_zero, List.set_cons_succ]
            refine wpAnyH_take (i := 8) (v := ?_) rfl (by kernel_rfl) (by kernel_rfl) (by kernel_rfl) (fun _ _ _ h => h) (Or.inl ⟨by kernel_rfl, ?_⟩) (by assumption) ?_
            rotate_left
            · intro w hSw
              (try dsimp only at hSw)
              go_simp
              first | done | with_reducible rfl
            simp only [List.getElem_toArray, List.getElem_cons_zero, List.getElem_cons_succ, Act.put, List.setIfInBounds_toArray, List.set_cons_zero, List.set_cons_succ]
            refine wpAnyH_done (by kernel_rfl) ?_ _
            dsimp only [NoPanic]
            clear hHeld
            go_wp2_with fail
            go_meet
            exact headCut_of gX_026 rfl hSA_026 hSB_026 hca_ hcb_ hX3_026 (below_undrew bel_026)
          exact AllReadyH.nil
        exact AllReadyH.nil
      refine AllReadyH.cons rfl (fun K hK => ?_) ?_
      · simp only [List.getElem_toArray, List.getElem_cons_zero, List.getElem_cons_succ]
        go_simp
        refine hK.out _ _ (((bal bel_0 _).block _ hs3d).trans Q3d.out) (fun hHeld => ?_)
        obtain ⟨X_06, hX_06⟩ : ∃ x, x = w_0.heap.size := ⟨_, rfl⟩
        obtain ⟨w_06, hw_06⟩ : ∃ x, x = w_0.alloc (.cells #[.string ⟨#[]⟩, .int .i64 0, .slice none 0 0, .slice none 0 0, .int .u64 0] 43) := ⟨_, rfl⟩
        rw [← hw_06, ← hX_06]
        have bel_06 : Below w3.drew.heap.size w3.drew w_06 := by rw [hw_06]; exact bal bel_0 _
        have gX_06 : w_06.heap[X_06]? = some (.cells #[.string ⟨#[]⟩, .int .i64 0, .slice none 0 0, .slice none 0 0, .int .u64 0] 43) := by rw [hw_06, hX_06]; exact World.alloc_heap_new w_0 _
        have hX3_06 : w3.drew.heap.size ≤ X_06 := by rw [hX_06]; exact bel_0.size
        have hc_06 : CaseOk w_06 (case0 LA_0 AA_0) := by rw [hw_06]; exact hc_0.go (bal (Below.refl _ _) _)
        clear hw_06 hX_06
        clear hK K
        try simp only [List.getElem_toArray, List.getElem_cons_zero, List.getElem_cons_succ, Act.put, List.setIfInBounds_toArray, List.set_cons_zero, List.set_cons_succ]
        refine wpAnyH_ready (rs := [2]) (by kernel_rfl) (by simp) ?_
        refine AllReadyH.cons rfl (fun K hK => ?_) ?_
        · simp only [List.getElem_toArray, List.getElem_cons_zero, List.getElem_cons_succ]
          go_simp
          (with_reducible refine (Seal_at (case0 LA_0 AA_0) (slip1 (some ⟨lb, 0, none⟩) (some ⟨fb, 0, none⟩)) ⟨#[115, 101, 101, 100]⟩ _ _ (Lib.hid rfl) Hsv ⟨annB, 290, R1, bl1, rootV (leafK R1 bl1 6)⟩ 0 (seal1S _ _ _ _) (seal1E _ _ _ _) w_06 hc_06 (Hs3d.out.go bel_06) (hT3.go bel_06) (by decide)).mono ?_)
          rintro e w_062 hsh
          obtain ⟨A_, ca_, B_, cb_, rfl, hca_, hcb_, hSA_062, hSB_062, hB_062⟩ := hsh
          dsimp only at hca_ hcb_ hSA_062 hSB_062 ⊢
          have bel_062 := bgo bel_06 hB_062
          have gX_062 := (hB_062.block _ (Array.getElem?_eq_some_iff.1 gX_06).1).trans gX_06
          refine hK.out _ _ ((bel_062.block _ hs3d).trans Q3d.out) (fun hHeld => ?_)
          clear hK K
          try simp only [List.getElem_toArray, List.getElem_cons_zero, List.getElem_cons_succ, Act.put, List.setIfInBounds_toArray, List.set_cons_zero, List.set_cons_succ]
          refine wpAnyH_take (i := 3) (v := ?_) rfl (by kernel_rfl) (by kernel_rfl) (by kernel_rfl) (fun _ _ _ h => h) (Or.inl ⟨by kernel_rfl, ?_⟩) (by assumption) ?_
          rotate_left
          · intro w hSw
            (try dsimp only at hSw)
            go_simp
            first | done | with_reducible rfl
          simp only [List.getElem_toArray, List.getElem_cons_zero, List.getElem_cons_succ, Act.put, List.setIfInBounds_toArray, List.set_cons_zero, List.set_cons_succ]
          refine wpAnyH_take (i := 4) (v := ?_) rfl (by kernel_rfl) (by kernel_rfl) (by kernel_rfl) (fun _ _ _ h => h) (Or.inl ⟨by kernel_rfl, ?_⟩) (by assumption) ?_
          rotate_left
          · intro w hSw
            (try dsimp only at hSw)
            go_simp
            first | done | with_reducible rfl
          simp only [List.getElem_toArray, List.getElem_cons_zero, List.getElem_cons_succ, Act.put, List.setIfInBounds_toArray, List.set_cons_zero, List.set_cons_succ]
          refine wpAnyH_take (i := 5) (v := ?_) rfl (by kernel_rfl) (by kernel_rfl) (by kernel_rfl) (fun _ _ _ h => h) (Or.inl ⟨by kernel_rfl, ?_⟩) (by assumption) ?_
          rotate_left
          · intro w hSw
            (try dsimp only at hSw)
            go_simp
            first | done | with_reducible rfl
          simp only [List.getElem_toArray, List.getElem_cons_zero, List.getElem_cons_succ, Act.put, List.setIfInBounds_toArray, List.set_cons_zero, List.set_cons_succ]
          refine wpAnyH_ready (rs := [7]) (by kernel_rfl) (by simp) ?_
          refine AllReadyH.cons rfl (fun K hK => ?_) ?_
          · simp only [List.getElem_toArray, List.getElem_cons_zero, List.getElem_cons_succ]
            have x0 : w_062.cell? ⟨X_06, 0, none⟩ = some (.string ⟨#[]⟩) := by rw [Lib.cell_of_heap gX_062]; rfl
            have x1 : w_062.cell? ⟨X_06, 1, none⟩ = some (.int .i64 0) := by rw [Lib.cell_of_heap gX_062]; rfl
            have x2 : w_062.cell? ⟨X_06, 2, none⟩ = some (.slice none 0 0) := by rw [Lib.cell_of_heap gX_062]; rfl
            have x3 : w_062.cell? ⟨X_06, 3, none⟩ = some (.slice none 0 0) := by rw [Lib.cell_of_heap gX_062]; rfl
            have x4 : w_062.cell? ⟨X_06, 4, none⟩ = some (.int .u64 0) := by rw [Lib.cell_of_heap gX_062]; rfl
            have yX : ∀ j, w_062.frozen? ⟨X_06, j, none⟩ = false := fun j => Lib.frozen_of_heap gX_062 j
            go_simp
            clear x0 x1 x2 x3 x4 yX
            refine hK.out _ _ ((heap_set5 _ _ _ _ _ _ _ _ (by have := hX3_06; have := hs3d; omega)).trans ((bel_062.block _ hs3d).trans Q3d.out)) (fun hHeld => ?_)
            clear hK K
            try simp only [List.getElem_toArray, List.getElem_cons_zero, List.getElem_cons_succ, Act.put, List.setIfInBounds_toArray, List.set_cons_zero, List.set_cons_succ]
            refine wpAnyH_take (i := 8) (v := ?_) rfl (by kernel_rfl) (by kernel_rfl) (by kernel_rfl) (fun _ _ _ h => h) (Or.inl ⟨by kernel_rfl, ?_⟩) (by assumption) ?_
            rotate_left
            · intro w hSw
              (try dsimp only at hSw)
              go_simp
              first | done | with_reducible rfl
            simp only [List.getElem_toArray, List.getElem_cons_zero, List.getElem_cons_succ, Act.put, List.setIfInBounds_toArray, List.set_cons_zero, List.set_cons_succ]
            refine wpAnyH_done (by kernel_rfl) ?_ _
            dsimp only [NoPanic]
            clear hHeld
            go_wp2_with fail
            go_meet
            exact headCut_of gX_062 rfl hSA_062 hSB_062 hca_ hcb_ hX3_06 (below_undrew bel_062)
          exact AllReadyH.nil
        exact AllReadyH.nil
      exact AllReadyH.nil
    refine AllReadyH.cons rfl (fun K hK => ?_) ?_
    · simp only [List.getElem_toArray, List.getElem_cons_zero, List.getElem_cons_succ]
      go_simp
      refine hK.out _ _ (((bal bel0 _).block _ hs3d).trans Q3d.out) (fun hHeld => ?_)
      obtain ⟨X_6, hX_6⟩ : ∃ x, x = w3.heap.size := ⟨_, rfl⟩
      obtain ⟨w_6, hw_6⟩ : ∃ x, x = (w3.alloc (.cells #[.string ⟨#[]⟩, .int .i64 0, .slice none 0 0, .slice none 0 0, .int .u64 0] 43)).drew := ⟨_, rfl⟩
      rw [← hw_6, ← hX_6]
      have bel_6 : Below w3.drew.heap.size w3.drew w_6 := by rw [hw_6]; exact below_redrew (bal (Below.refl w3.heap.size w3) _).drew
      have gX_6 : w_6.heap[X_6]? = some (.cells #[.string ⟨#[]⟩, .int .i64 0, .slice none 0 0, .slice none 0 0, .int .u64 0] 43) := by rw [hw_6, hX_6]; exact World.alloc_heap_new w3 _
      have hX3_6 : w3.drew.heap.size ≤ X_6 := by rw [hX_6]; exact bel0.size
      clear hw_6 hX_6
      clear hK K
      try simp only [List.getElem_toArray, List.getElem_cons_zero, List.getElem_cons_succ, Act.put, List.setIfInBounds_toArray, List.set_cons_zero, List.set_cons_succ]
      refine wpAnyH_ready (rs := [0]) (by kernel_rfl) (by simp) ?_
      refine AllReadyH.cons rfl (fun K hK => ?_) ?_
      · simp only [List.getElem_toArray, List.getElem_cons_zero, List.getElem_cons_succ]
        go_simp
        (with_reducible refine (case_any w_6).mono ?_)
        rintro e w_60 hcp
        obtain ⟨LA_60, AA_60, rfl, hc_60, hB_60⟩ := hcp
        dsimp only
        have bel_60 := bgo bel_6 hB_60
        have gX_60 := (hB_60.block _ (Array.getElem?_eq_some_iff.1 gX_6).1).trans gX_6
        refine hK.out _ _ ((bel_60.block _ hs3d).trans Q3d.out) (fun hHeld => ?_)
        clear hK K
        try simp only [List.getElem_toArray, List.getElem_cons_zero, List.getElem_cons_succ, Act.put, List.setIfInBounds_toArray, List.set_cons_zero, List.set_cons_succ]
        refine wpAnyH_ready (rs := [2]) (by kernel_rfl) (by simp) ?_
        refine AllReadyH.cons rfl (fun K hK => ?_) ?_
        · simp only [List.getElem_toArray, List.getElem_cons_zero, List.getElem_cons_succ]
          go_simp
          (with_reducible refine (Seal_at (case0 LA_60 AA_60) (slip1 (some ⟨lb, 0, none⟩) (some ⟨fb, 0, none⟩)) ⟨#[115, 101, 101, 100]⟩ _ _ (Lib.hid rfl) Hsv ⟨annB, 290, R1, bl1, rootV (leafK R1 bl1 6)⟩ 0 (seal1S _ _ _ _) (seal1E _ _ _ _) w_60 hc_60 (Hs3d.out.go bel_60) (hT3.go bel_60) (by decide)).mono ?_)
          rintro e w_602 hsh
          obtain ⟨A_, ca_, B_, cb_, rfl, hca_, hcb_, hSA_602, hSB_602, hB_602⟩ := hsh
          dsimp only at hca_ hcb_ hSA_602 hSB_602 ⊢
          have bel_602 := bgo bel_60 hB_602
          have gX_602 := (hB_602.block _ (Array.getElem?_eq_some_iff.1 gX_60).1).trans gX_60
          refine hK.out _ _ ((bel_602.block _ hs3d).trans Q3d.out) (fun hHeld => ?_)
          clear hK K
          try simp only [List.getElem_toArray, List.getElem_cons_zero, List.getElem_cons_succ, Act.put, List.setIfInBounds_toArray, List.set_cons_zero, List.set_cons_succ]
          refine wpAnyH_take (i := 3) (v := ?_) rfl (by kernel_rfl) (by kernel_rfl) (by kernel_rfl) (fun _ _ _ h => h) (Or.inl ⟨by kernel_rfl, ?_⟩) (by assumption) ?_
          rotate_left
          · intro w hSw
            (try dsimp only at hSw)
            go_simp
            first | done | with_reducible rfl
          simp only [List.getElem_toArray, List.getElem_cons_zero, List.getElem_cons_succ, Act.put, List.setIfInBounds_toArray, List.set_cons_zero, List.set_cons_succ]
          refine wpAnyH_take (i := 4) (v := ?_) rfl (by kernel_rfl) (by kernel_rfl) (by kernel_rfl) (fun _ _ _ h => h) (Or.inl ⟨by kernel_rfl, ?_⟩) (by assumption) ?_
          rotate_left
          · intro w hSw
            (try dsimp only at hSw)
            go_simp
            first | done | with_reducible rfl
          simp only [List.getElem_toArray, List.getElem_cons_zero, List.getElem_cons_succ, Act.put, List.setIfInBounds_toArray, List.set_cons_zero, List.set_cons_succ]
          refine wpAnyH_take (i := 5) (v := ?_) rfl (by kernel_rfl) (by kernel_rfl) (by kernel_rfl) (fun _ _ _ h => h) (Or.inl ⟨by kernel_rfl, ?_⟩) (by assumption) ?_
          rotate_left
          · intro w hSw
            (try dsimp only at hSw)
            go_simp
            first | done | with_reducible rfl
          simp only [List.getElem_toArray, List.getElem_cons_zero, List.getElem_cons_succ, Act.put, List.setIfInBounds_toArray, List.set_cons_zero, List.set_cons_succ]
          refine wpAnyH_ready (rs := [7]) (by kernel_rfl) (by simp) ?_
          refine AllReadyH.cons rfl (fun K hK => ?_) ?_
          · simp only [List.getElem_toArray, List.getElem_cons_zero, List.getElem_cons_succ]
            have x0 : w_602.cell? ⟨X_6, 0, none⟩ = some (.string ⟨#[]⟩) := by rw [Lib.cell_of_heap gX_602]; rfl
            have x1 : w_602.cell? ⟨X_6, 1, none⟩ = some (.int .i64 0) := by rw [Lib.cell_of_heap gX_602]; rfl
            have x2 : w_602.cell? ⟨X_6, 2, none⟩ = some (.slice none 0 0) := by rw [Lib.cell_of_heap gX_602]; rfl
            have x3 : w_602.cell? ⟨X_6, 3, none⟩ = some (.slice none 0 0) := by rw [Lib.cell_of_heap gX_602]; rfl
            have x4 : w_602.cell? ⟨X_6, 4, none⟩ = some (.int .u64 0) := by rw [Lib.cell_of_heap gX_602]; rfl
            have yX : ∀ j, w_602.frozen? ⟨X_6, j, none⟩ = false := fun j => Lib.frozen_of_heap gX_602 j
            go_simp
            clear x0 x1 x2 x3 x4 yX
            refine hK.out _ _ ((heap_set5 _ _ _ _ _ _ _ _ (by have := hX3_6; have := hs3d; omega)).trans ((bel_602.block _ hs3d).trans Q3d.out)) (fun hHeld => ?_)
            clear hK K
            try simp only [List.getElem_toArray, List.getElem_cons_zero, List.getElem_cons_succ, Act.put, List.setIfInBounds_toArray, List.set_cons_zero, List.set_cons_succ]
            refine wpAnyH_take (i := 8) (v := ?_) rfl (by kernel_rfl) (by kernel_rfl) (by kernel_rfl) (fun _ _ _ h => h) (Or.inl ⟨by kernel_rfl, ?_⟩) (by assumption) ?_
            rotate_left
            · intro w hSw
              (try dsimp only at hSw)
              go_simp
              first | done | with_reducible rfl
            simp only [List.getElem_toArray, List.getElem_cons_zero, List.getElem_cons_succ, Act.put, List.setIfInBounds_toArray, List.set_cons_zero, List.set_cons_succ]
            refine wpAnyH_done (by kernel_rfl) ?_ _
            dsimp only [NoPanic]
            clear hHeld
            go_wp2_with fail
            go_meet
            exact headCut_of gX_602 rfl hSA_602 hSB_602 hca_ hcb_ hX3_6 (below_undrew bel_602)
          exact AllReadyH.nil
        exact AllReadyH.nil
      exact AllReadyH.nil
    exact AllReadyH.nil
  case rest =>
    obtain ⟨X, A, ca, B, cb, rfl, rfl, gX, hSA, hSB, hca, hcb, hX3, hB3c⟩ := hcut
    have hBwc := bgo hB03 hB3c
    have hXl : X < wc.heap.size := (Array.getElem?_eq_some_iff.1 gX).1
    obtain ⟨root, hroot⟩ : ∃ r, rootV (leafK R1 bl1 6) = r := ⟨_, rfl⟩
    rw [hroot] at gX
    have K := Lib.hid (And.intro gX (And.intro hSA (And.intro hSB (HA3.out.go hB3c))))
    have Hroot := Lib.hid hroot
    clear gX hSA hSB hroot
    go_wp2_with fail
    refine (case_any _).mono ?_
    rintro e w4 hcp
    obtain ⟨LA4, AA4, rfl, hc4, hB4⟩ := hcp
    go_wp2_with fail
    refine (Rows_at (case0 LA4 AA4) slip0 _ _ (Lib.hid rfl) (Lib.hid rfl) [] 0 1 (rows0R LA4 AA4) (Lib.hid rfl) (rows0E LA4 AA4) w4 hc4 (slip0Ok w4) (hT.go (bgo hBwc hB4)).cal).mono ?_
    rintro e w5 ⟨A5, ca5, rfl, hca5, hA5, hB5⟩
    have hBc5 := bgo hB4 hB5
    clear hc4 hB4 hB5 hA5
    go_wp2_with fail
    refine (case_any _).mono ?_
    rintro e w6 hcp
    obtain ⟨LA6, AA6, rfl, hc6, hB6⟩ := hcp
    have hBc6 := bgo hBc5 hB6
    go_wp2_with fail
    refine (Seal_at (case0 LA6 AA6) slip2 ⟨#[]⟩ _ _ (Lib.hid rfl) (Lib.hid rfl) ⟨⟨#[]⟩, 0, [], [], 0⟩ 3 (seal2S LA6 AA6) (seal2E LA6 AA6) w6 hc6 (slip2Ok w6) (hT.go (bgo hBwc hBc6)) (by decide)).mono ?_
    rintro e w7 hsh
    obtain ⟨A7, ca7, B7, cb7, rfl, hca7, hcb7, hSA7, hSB7, hB7⟩ := hsh
    dsimp only at hca7 hcb7 hSA7 hSB7 ⊢
    have hBc7 := bgo hBc6 hB7
    have k2 : w7.cell? ⟨X, 2, none⟩ = some (.slice A 6 ca) := by rw [Lib.cell_of_heap ((hBc7.block _ hXl).trans K.out.1)]; rfl
    have k3 : w7.cell? ⟨X, 3, none⟩ = some (.slice B 6 cb) := by rw [Lib.cell_of_heap ((hBc7.block _ hXl).trans K.out.1)]; rfl
    have hX7 : X < w7.heap.size := Nat.lt_of_lt_of_le hXl hBc7.size
    clear hc6 hB6 hB7 hSA7 hSB7 hBc5 hBc6 hca7 hcb7
    go_upto_region 8 with fail
    obtain ⟨W8, hW8⟩ : ∃ x, x = w7.alloc (.cells #[.string ⟨#[]⟩, .int .i64 0, .slice A7 0 ca7, .slice B7 0 cb7, .int .u64 0] 43) := ⟨_, rfl⟩
    rw [← hW8]
    have hBc8 : Below wc.heap.size wc W8 := by rw [hW8]; exact bal hBc7 _
    clear hW8 k2 k3 hX7 hBc7
    obtain ⟨b3, o3, rfl, hb3, hcl3⟩ := K.out.2.2.2.2 (by decide)
    have y : ∀ j u, (rowsV R1)[j]? = some u → W8.cell? ⟨b3, o3 + j, none⟩ = some u := fun j u hu => (hBc8.cell (p := ⟨b3, o3 + j, none⟩) hb3).trans (hcl3 j u hu)
    have y0 : W8.cell? ⟨b3, o3, none⟩ = some (.string ⟨#[98, 97, 115, 105, 99]⟩) := y 0 _ rfl
    have y1 : W8.cell? ⟨b3, o3 + 1, none⟩ = some (.int .i64 500) := y 1 _ rfl
    have y2 : W8.cell? ⟨b3, o3 + 2, none⟩ = some (.string reason0) := y 2 _ rfl
    have z0 : W8.cell? ⟨b3, o3 + 15, none⟩ = some (.string ⟨#[110, 101, 116]⟩) := y 15 _ rfl
    have z1 : W8.cell? ⟨b3, o3 + 15 + 1, none⟩ = some (.int .i64 450) := y 16 _ rfl
    have z2 : W8.cell? ⟨b3, o3 + 15 + 2, none⟩ = some (.string ⟨#[114, 101, 115, 116]⟩) := y 17 _ rfl
    clear y hcl3
    unfold reason0 at y2
    go_wp2_with fail
    have hBw8 := bgo hBwc hBc8
    have gX8 : W8.drew.heap[X]? = some (.cells #[.string annB, .int .i64 290, .slice A 6 ca, .slice B 6 cb, .int .u64 root.toNat] 43 (0, 0)) := (hBc8.block _ hXl).trans K.out.1
    have GX8 := Lib.hid gX8
    have hX8 : X < W8.drew.heap.size := Nat.lt_of_lt_of_le hXl hBc8.size
    have kx : W8.cell? ⟨X, 3, none⟩ = some (.slice B 6 cb) := by rw [← World.cell?_drew, Lib.cell_of_heap gX8]; rfl
    clear gX8 y0 y1 y2 z0 z1 z2
    have HAc := Lib.hid ((show Sl wc wc.heap.size 3 A 6 (rowsV R1) from K.out.2.1).go hBc8)
    have HBc := Lib.hid ((show Sl wc wc.heap.size 1 B 6 (intV bl1) from K.out.2.2.1).go hBc8)
    go_cut [4] (fun s4 wx => Cut9 w3 W8 X A ca root s4 wx)
    case first =>
      have hB38 : Below w3.heap.size w3 W8 := bgo hB3c hBc8
      refine wp_region_noPanic ?_
      refine wp_region_held_drew (S := fun _ => True) (by kernel_rfl) trivial (fun hHeld => ?_)
      have hmk : ∀ w, (Instr.makeSlice 39 (.int .i64 0) (.int .i64 6)).run Tryd.prog w = .ok (.slice (some ⟨w.heap.size, 0, none⟩) 0 6) (w.alloc (.cells #[.int .i64 0, .int .i64 0, .int .i64 0, .int .i64 0, .int .i64 0, .int .i64 0] 3)) := fun _ => by kernel_rfl
      obtain ⟨i0, hi0, hz0, hz1, hz2⟩ := info_parts info_int
      refine wpAnyH_take (i := 0) (v := ?_) rfl (by kernel_rfl) (by kernel_rfl) (by kernel_rfl) (fun _ _ _ h => h) (Or.inl ⟨by kernel_rfl, ?_⟩) (by assumption) ?_
      rotate_left
      · intro w hSw
        (try dsimp only at hSw)
        go_simp
        first | done | with_reducible rfl
      simp only [List.getElem_toArray, List.getElem_cons_zero, List.getElem_cons_succ, Act.put, List.setIfInBounds_toArray, List.set_cons_zero, List.set_cons_succ]
      refine wpAnyH_take (i := 4) (v := ?_) rfl (by kernel_rfl) (by kernel_rfl) (by kernel_rfl) (fun _ _ _ h => h) (Or.inl ⟨by kernel_rfl, ?_⟩) (by assumption) ?_
      rotate_left
      · intro w hSw
        (try dsimp only at hSw)
        go_simp
        first | done | with_reducible rfl
      simp only [List.getElem_toArray, List.getElem_cons_zero, List.getElem_cons_succ, Act.put, List.setIfInBounds_toArray, List.set_cons_zero, List.set_cons_succ]
      refine wpAnyH_ready (rs := [1, 5]) (by kernel_rfl) (by simp) ?_
      refine AllReadyH.cons rfl (fun K hK => ?_) ?_
      · simp only [List.getElem_toArray, List.getElem_cons_zero, List.getElem_cons_succ]
        go_simp
        refine hK.out _ _ trivial (fun hHeld => ?_)
        clear hK K
        try simp only [List.getElem_toArray, List.getElem_cons_zero, List.getElem_cons_succ, Act.put, List.setIfInBounds_toArray, List.set_cons_zero, List.set_cons_succ]
        refine wpAnyH_take (i := 2) (v := ?_) rfl (by kernel_rfl) (by kernel_rfl) (by kernel_rfl) (fun _ _ _ h => h) (Or.inl ⟨by kernel_rfl, ?_⟩) (by assumption) ?_
        rotate_left
        · intro w hSw
          (try dsimp only at hSw)
          go_simp
          first | done | with_reducible rfl
        simp only [List.getElem_toArray, List.getElem_cons_zero, List.getElem_cons_succ, Act.put, List.setIfInBounds_toArray, List.set_cons_zero, List.set_cons_succ]
        refine wpAnyH_ready (rs := [3, 5]) (by kernel_rfl) (by simp) ?_
        refine AllReadyH.cons rfl (fun K hK => ?_) ?_
        · simp only [List.getElem_toArray, List.getElem_cons_zero, List.getElem_cons_succ]
          go_simp
          obtain ⟨w_13, hw_13⟩ : ∃ x, x = (W8.alloc (.cells #[.int .i64 0, .int .i64 0, .int .i64 0, .int .i64 0, .int .i64 0, .int .i64 0] 3)).drew := ⟨_, rfl⟩
          rw [← hw_13]
          have own_13 : w_13.ownsRow W8.heap.size 3 1 (.slice (some ⟨W8.heap.size, 0, none⟩) 0 6) 0 [] := by rw [hw_13]; exact own_cap0 W8 #[.int .i64 0, .int .i64 0, .int .i64 0, .int .i64 0, .int .i64 0, .int .i64 0] 6 3 1 rfl (by decide)
          have bel_13 : Below W8.heap.size W8 w_13 := by rw [hw_13]; exact (bal (Below.refl W8.heap.size W8) _).drew
          have kx_13 : w_13.cell? ⟨X, 3, none⟩ = some (.slice B 6 cb) := by rw [Lib.cell_of_heap ((bel_13.block _ hX8).trans GX8.out)]; rfl
          clear hw_13
          refine hK.out _ _ trivial (fun hHeld => ?_)
          clear hK K
          try simp only [List.getElem_toArray, List.getElem_cons_zero, List.getElem_cons_succ, Act.put, List.setIfInBounds_toArray, List.set_cons_zero, List.set_cons_succ]
          refine wpAnyH_ready (rs := [5]) (by kernel_rfl) (by simp) ?_
          refine AllReadyH.cons rfl (fun K hK => ?_) ?_
          · simp only [List.getElem_toArray, List.getElem_cons_zero, List.getElem_cons_succ]
            go_simp
            refine hK.out _ _ trivial (fun hHeld => ?_)
            clear hK K
            try simp only [List.getElem_toArray, List.getElem_cons_zero, List.getElem_cons_succ, Act.put, List.setIfInBounds_toArray, List.set_cons_zero, List.set_cons_succ]
            refine wpAnyH_ready (rs := [6]) (by kernel_rfl) (by simp) ?_
            refine AllReadyH.cons rfl (fun K hK => ?_) ?_
            · refine step_src (w0 := W8) (by rfl) _ _ 39 (by rfl) 3 i0 (.int .i64 0) 1 8 Tryd.underlying39 hi0 hz0 hz1 hz2 (by rfl) (by decide) (.slice (some ⟨W8.heap.size, 0, none⟩) 0 6) 0 [] (by rfl) own_13 bel_13 (.slice B 6 cb) 6 (intV bl1) (by rfl) (sl_src (HBc.out.go bel_13) (by decide) _) (by simp [intV, bl1, Value.oneCell']) (by decide) (by decide) ?_
              intro v6 w6 hown6 hB6_1356 hk6
              obtain ⟨B6, cb6, hv6, _⟩ := own_slice hown6
              subst hv6
              have gX6 := (hB6_1356.block _ hX8).trans GX8.out
              have kc6 : w6.cell? ⟨X, 3, none⟩ = some (.slice B 6 cb) := by rw [Lib.cell_of_heap gX6]; rfl
              have kf6 : w6.frozen? ⟨X, 3, none⟩ = false := Lib.frozen_of_heap gX6 3
              clear kx
              refine hK.out _ _ trivial (fun hHeld => ?_)
              clear hK K
              try simp only [List.getElem_toArray, List.getElem_cons_zero, List.getElem_cons_succ, Act.put, List.setIfInBounds_toArray, List.set_cons_zero, List.set_cons_succ]
              refine wpAnyH_take (i := 7) (v := ?_) rfl (by kernel_rfl) (by kernel_rfl) (by kernel_rfl) (fun _ _ _ h => h) (Or.inl ⟨by kernel_rfl, ?_⟩) (by assumption) ?_
              rotate_left
              · intro w hSw
                (try dsimp only at hSw)
                go_simp
                first | done | with_reducible rfl
              simp only [List.getElem_toArray, List.getElem_cons_zero, List.getElem_cons_succ, Act.put, List.setIfInBounds_toArray, List.set_cons_zero, List.set_cons_succ]
              refine wpAnyH_ready (rs := [8]) (by kernel_rfl) (by simp) ?_
              refine AllReadyH.cons rfl (fun K hK => ?_) ?_
              · simp only [List.getElem_toArray, List.getElem_cons_zero, List.getElem_cons_succ]
                go_simp
                refine hK.out _ _ trivial (fun hHeld => ?_)
                clear hK K
                try simp only [List.getElem_toArray, List.getElem_cons_zero, List.getElem_cons_succ, Act.put, List.setIfInBounds_toArray, List.set_cons_zero, List.set_cons_succ]
                refine wpAnyH_done (by kernel_rfl) ?_ _
                dsimp only [NoPanic]
                clear hHeld kc6 kf6
                go_wp2_with fail
                go_meet
                exact cut9_of rfl gX6 hown6 (HAc.out.go hB6_1356) (bgo hB38 hB6_1356) hX8 hX3
              exact AllReadyH.nil
            exact AllReadyH.nil
          exact AllReadyH.nil
        refine AllReadyH.cons rfl (fun K hK => ?_) ?_
        · simp only [List.getElem_toArray, List.getElem_cons_zero, List.getElem_cons_succ]
          go_simp
          refine hK.out _ _ trivial (fun hHeld => ?_)
          clear hK K
          try simp only [List.getElem_toArray, List.getElem_cons_zero, List.getElem_cons_succ, Act.put, List.setIfInBounds_toArray, List.set_cons_zero, List.set_cons_succ]
          refine wpAnyH_ready (rs := [3]) (by kernel_rfl) (by simp) ?_
          refine AllReadyH.cons rfl (fun K hK => ?_) ?_
          · simp only [List.getElem_toArray, List.getElem_cons_zero, List.getElem_cons_succ]
            go_simp
            obtain ⟨w_153, hw_153⟩ : ∃ x, x = (W8.alloc (.cells #[.int .i64 0, .int .i64 0, .int .i64 0, .int .i64 0, .int .i64 0, .int .i64 0] 3)).drew := ⟨_, rfl⟩
            rw [← hw_153]
            have own_153 : w_153.ownsRow W8.heap.size 3 1 (.slice (some ⟨W8.heap.size, 0, none⟩) 0 6) 0 [] := by rw [hw_153]; exact own_cap0 W8 #[.int .i64 0, .int .i64 0, .int .i64 0, .int .i64 0, .int .i64 0, .int .i64 0] 6 3 1 rfl (by decide)
            have bel_153 : Below W8.heap.size W8 w_153 := by rw [hw_153]; exact (bal (Below.refl W8.heap.size W8) _).drew
            have kx_153 : w_153.cell? ⟨X, 3, none⟩ = some (.slice B 6 cb) := by rw [Lib.cell_of_heap ((bel_153.block _ hX8).trans GX8.out)]; rfl
            clear hw_153
            refine hK.out _ _ trivial (fun hHeld => ?_)
            clear hK K
            try simp only [List.getElem_toArray, List.getElem_cons_zero, List.getElem_cons_succ, Act.put, List.setIfInBounds_toArray, List.set_cons_zero, List.set_cons_succ]
            refine wpAnyH_ready (rs := [6]) (by kernel_rfl) (by simp) ?_
            refine AllReadyH.cons rfl (fun K hK => ?_) ?_
            · refine step_src (w0 := W8) (by rfl) _ _ 39 (by rfl) 3 i0 (.int .i64 0) 1 8 Tryd.underlying39 hi0 hz0 hz1 hz2 (by rfl) (by decide) (.slice (some ⟨W8.heap.size, 0, none⟩) 0 6) 0 [] (by rfl) own_153 bel_153 (.slice B 6 cb) 6 (intV bl1) (by rfl) (sl_src (HBc.out.go bel_153) (by decide) _) (by simp [intV, bl1, Value.oneCell']) (by decide) (by decide) ?_
              intro v6 w6 hown6 hB6_1536 hk6
              obtain ⟨B6, cb6, hv6, _⟩ := own_slice hown6
              subst hv6
              have gX6 := (hB6_1536.block _ hX8).trans GX8.out
              have kc6 : w6.cell? ⟨X, 3, none⟩ = some (.slice B 6 cb) := by rw [Lib.cell_of_heap gX6]; rfl
              have kf6 : w6.frozen? ⟨X, 3, none⟩ = false := Lib.frozen_of_heap gX6 3
              clear kx
              refine hK.out _ _ trivial (fun hHeld => ?_)
              clear hK K
              try simp only [List.getElem_toArray, List.getElem_cons_zero, List.getElem_cons_succ, Act.put, List.setIfInBounds_toArray, List.set_cons_zero, List.set_cons_succ]
              refine wpAnyH_take (i := 7) (v := ?_) rfl (by kernel_rfl) (by kernel_rfl) (by kernel_rfl) (fun _ _ _ h => h) (Or.inl ⟨by kernel_rfl, ?_⟩) (by assumption) ?_
              rotate_left
              · intro w hSw
                (try dsimp only at hSw)
                go_simp
                first | done | with_reducible rfl
              simp only [List.getElem_toArray, List.getElem_cons_zero, List.getElem_cons_succ, Act.put, List.setIfInBounds_toArray, List.set_cons_zero, List.set_cons_succ]
              refine wpAnyH_ready (rs := [8]) (by kernel_rfl) (by simp) ?_
              refine AllReadyH.cons rfl (fun K hK => ?_) ?_
              · simp only [List.getElem_toArray, List.getElem_cons_zero, List.getElem_cons_succ]
                go_simp
                refine hK.out _ _ trivial (fun hHeld => ?_)
                clear hK K
                try simp only [List.getElem_toArray, List.getElem_cons_zero, List.getElem_cons_succ, Act.put, List.setIfInBounds_toArray, List.set_cons_zero, List.set_cons_succ]
                refine wpAnyH_done (by kernel_rfl) ?_ _
                dsimp only [NoPanic]
                clear hHeld kc6 kf6
                go_wp2_with fail
                go_meet
                exact cut9_of rfl gX6 hown6 (HAc.out.go hB6_1536) (bgo hB38 hB6_1536) hX8 hX3
              exact AllReadyH.nil
            exact AllReadyH.nil
          exact AllReadyH.nil
        exact AllReadyH.nil
      refine AllReadyH.cons rfl (fun K hK => ?_) ?_
      · simp only [List.getElem_toArray, List.getElem_cons_zero, List.getElem_cons_succ]
        go_simp
        refine hK.out _ _ trivial (fun hHeld => ?_)
        clear hK K
        try simp only [List.getElem_toArray, List.getElem_cons_zero, List.getElem_cons_succ, Act.put, List.setIfInBounds_toArray, List.set_cons_zero, List.set_cons_succ]
        refine wpAnyH_ready (rs := [1]) (by kernel_rfl) (by simp) ?_
        refine AllReadyH.cons rfl (fun K hK => ?_) ?_
        · simp only [List.getElem_toArray, List.getElem_cons_zero, List.getElem_cons_succ]
          go_simp
          refine hK.out _ _ trivial (fun hHeld => ?_)
          clear hK K
          try simp only [List.getElem_toArray, List.getElem_cons_zero, List.getElem_cons_succ, Act.put, List.setIfInBounds_toArray, List.set_cons_zero, List.set_cons_succ]
          refine wpAnyH_take (i := 2) (v := ?_) rfl (by kernel_rfl) (by kernel_rfl) (by kernel_rfl) (fun _ _ _ h => h) (Or.inl ⟨by kernel_rfl, ?_⟩) (by assumption) ?_
          rotate_left
          · intro w hSw
            (try dsimp only at hSw)
            go_simp
            first | done | with_reducible rfl
          simp only [List.getElem_toArray, List.getElem_cons_zero, List.getElem_cons_succ, Act.put, List.setIfInBounds_toArray, List.set_cons_zero, List.set_cons_succ]
          refine wpAnyH_ready (rs := [3]) (by kernel_rfl) (by simp) ?_
          refine AllReadyH.cons rfl (fun K hK => ?_) ?_
          · simp only [List.getElem_toArray, List.getElem_cons_zero, List.getElem_cons_succ]
            go_simp
            obtain ⟨w_513, hw_513⟩ : ∃ x, x = (W8.alloc (.cells #[.int .i64 0, .int .i64 0, .int .i64 0, .int .i64 0, .int .i64 0, .int .i64 0] 3)).drew := ⟨_, rfl⟩
            rw [← hw_513]
            have own_513 : w_513.ownsRow W8.heap.size 3 1 (.slice (some ⟨W8.heap.size, 0, none⟩) 0 6) 0 [] := by rw [hw_513]; exact own_cap0 W8 #[.int .i64 0, .int .i64 0, .int .i64 0, .int .i64 0, .int .i64 0, .int .i64 0] 6 3 1 rfl (by decide)
            have bel_513 : Below W8.heap.size W8 w_513 := by rw [hw_513]; exact (bal (Below.refl W8.heap.size W8) _).drew
            have kx_513 : w_513.cell? ⟨X, 3, none⟩ = some (.slice B 6 cb) := by rw [Lib.cell_of_heap ((bel_513.block _ hX8).trans GX8.out)]; rfl
            clear hw_513
            refine hK.out _ _ trivial (fun hHeld => ?_)
            clear hK K
            try simp only [List.getElem_toArray, List.getElem_cons_zero, List.getElem_cons_succ, Act.put, List.setIfInBounds_toArray, List.set_cons_zero, List.set_cons_succ]
            refine wpAnyH_ready (rs := [6]) (by kernel_rfl) (by simp) ?_
            refine AllReadyH.cons rfl (fun K hK => ?_) ?_
            · refine step_src (w0 := W8) (by rfl) _ _ 39 (by rfl) 3 i0 (.int .i64 0) 1 8 Tryd.underlying39 hi0 hz0 hz1 hz2 (by rfl) (by decide) (.slice (some ⟨W8.heap.size, 0, none⟩) 0 6) 0 [] (by rfl) own_513 bel_513 (.slice B 6 cb) 6 (intV bl1) (by rfl) (sl_src (HBc.out.go bel_513) (by decide) _) (by simp [intV, bl1, Value.oneCell']) (by decide) (by decide) ?_
              intro v6 w6 hown6 hB6_5136 hk6
              obtain ⟨B6, cb6, hv6, _⟩ := own_slice hown6
              subst hv6
              have gX6 := (hB6_5136.block _ hX8).trans GX8.out
              have kc6 : w6.cell? ⟨X, 3, none⟩ = some (.slice B 6 cb) := by rw [Lib.cell_of_heap gX6]; rfl
              have kf6 : w6.frozen? ⟨X, 3, none⟩ = false := Lib.frozen_of_heap gX6 3
              clear kx
              refine hK.out _ _ trivial (fun hHeld => ?_)
              clear hK K
              try simp only [List.getElem_toArray, List.getElem_cons_zero, List.getElem_cons_succ, Act.put, List.setIfInBounds_toArray, List.set_cons_zero, List.set_cons_succ]
              refine wpAnyH_take (i := 7) (v := ?_) rfl (by kernel_rfl) (by kernel_rfl) (by kernel_rfl) (fun _ _ _ h => h) (Or.inl ⟨by kernel_rfl, ?_⟩) (by assumption) ?_
              rotate_left
              · intro w hSw
                (try dsimp only at hSw)
                go_simp
                first | done | with_reducible rfl
              simp only [List.getElem_toArray, List.getElem_cons_zero, List.getElem_cons_succ, Act.put, List.setIfInBounds_toArray, List.set_cons_zero, List.set_cons_succ]
              refine wpAnyH_ready (rs := [8]) (by kernel_rfl) (by simp) ?_
              refine AllReadyH.cons rfl (fun K hK => ?_) ?_
              · simp only [List.getElem_toArray, List.getElem_cons_zero, List.getElem_cons_succ]
                go_simp
                refine hK.out _ _ trivial (fun hHeld => ?_)
                clear hK K
                try simp only [List.getElem_toArray, List.getElem_cons_zero, List.getElem_cons_succ, Act.put, List.setIfInBounds_toArray, List.set_cons_zero, List.set_cons_succ]
                refine wpAnyH_done (by kernel_rfl) ?_ _
                dsimp only [NoPanic]
                clear hHeld kc6 kf6
                go_wp2_with fail
                go_meet
                exact cut9_of rfl gX6 hown6 (HAc.out.go hB6_5136) (bgo hB38 hB6_5136) hX8 hX3
              exact AllReadyH.nil
            exact AllReadyH.nil
          exact AllReadyH.nil
        exact AllReadyH.nil
      exact AllReadyH.nil
    case rest =>
      obtain ⟨rfl, B9, cb9, cs9, gX9, gB9, hsB9, hSA9, hSB9, hb9, hB9⟩ := hcut
      have x9 : wc.cell? ⟨X, 3, none⟩ = some (.slice (some ⟨B9, 0, none⟩) 6 cb9) := by rw [Lib.cell_of_heap gX9]; rfl
      have y9 : wc.cell? ⟨B9, 0, none⟩ = some (.int .i64 400441750) := cell_first hSB9
      have f9 : wc.frozen? ⟨B9, 0, none⟩ = false := Lib.frozen_of_heap gB9 0
      have K9 := Lib.hid (And.intro gX9 (And.intro gB9 (And.intro hSA9 hSB9)))
      clear gX9 gB9 hSA9 hSB9
      go_wp2_with fail
      refine wp_region_noPanic ?_
      refine wp_region_held_drew (S := fun _ => True) (by kernel_rfl) trivial (fun hHeld => ?_)
      refine wpAnyH_take (i := 0) (v := ?_) rfl (by kernel_rfl) (by kernel_rfl) (by kernel_rfl) (fun _ _ _ h => h) (Or.inl ⟨by kernel_rfl, ?_⟩) (by assumption) ?_
      rotate_left
      · intro w hSw
        (try dsimp only at hSw)
        go_simp
        first | done | with_reducible rfl
      simp only [List.getElem_toArray, List.getElem_cons_zero, List.getElem_cons_succ, Act.put, List.setIfInBounds_toArray, List.set_cons_zero, List.set_cons_succ]
      refine wpAnyH_take (i := 2) (v := ?_) rfl (by kernel_rfl) (by kernel_rfl) (by kernel_rfl) (fun _ _ _ h => h) (Or.inl ⟨by kernel_rfl, ?_⟩) (by assumption) ?_
      rotate_left
      · intro w hSw
        (try dsimp only at hSw)
        go_simp
        first | done | with_reducible rfl
      simp only [List.getElem_toArray, List.getElem_cons_zero, List.getElem_cons_succ, Act.put, List.setIfInBounds_toArray, List.set_cons_zero, List.set_cons_succ]
      refine wpAnyH_ready (rs := [1, 3]) (by kernel_rfl) (by simp) ?_
      refine AllReadyH.cons rfl (fun K hK => ?_) ?_
      · simp only [List.getElem_toArray, List.getElem_cons_zero, List.getElem_cons_succ]
        go_simp
        refine hK.out _ _ trivial (fun hHeld => ?_)
        clear hK K
        try simp only [List.getElem_toArray, List.getElem_cons_zero, List.getElem_cons_succ, Act.put, List.setIfInBounds_toArray, List.set_cons_zero, List.set_cons_succ]
        refine wpAnyH_ready (rs := [3]) (by kernel_rfl) (by simp) ?_
        refine AllReadyH.cons rfl (fun K hK => ?_) ?_
        · simp only [List.getElem_toArray, List.getElem_cons_zero, List.getElem_cons_succ]
          go_simp
          refine hK.out _ _ trivial (fun hHeld => ?_)
          clear hK K
          try simp only [List.getElem_toArray, List.getElem_cons_zero, List.getElem_cons_succ, Act.put, List.setIfInBounds_toArray, List.set_cons_zero, List.set_cons_succ]
          refine wpAnyH_take (i := 4) (v := ?_) rfl (by kernel_rfl) (by kernel_rfl) (by kernel_rfl) (fun _ _ _ h => h) (Or.inl ⟨by kernel_rfl, ?_⟩) (by assumption) ?_
          rotate_left
          · intro w hSw
            (try dsimp only at hSw)
            go_simp
            first | done | with_reducible rfl
          simp only [List.getElem_toArray, List.getElem_cons_zero, List.getElem_cons_succ, Act.put, List.setIfInBounds_toArray, List.set_cons_zero, List.set_cons_succ]
          refine wpAnyH_ready (rs := [5]) (by kernel_rfl) (by simp) ?_
          refine AllReadyH.cons rfl (fun K hK => ?_) ?_
          · simp only [List.getElem_toArray, List.getElem_cons_zero, List.getElem_cons_succ]
            go_simp
            refine hK.out _ _ trivial (fun hHeld => ?_)
            clear hK K
            try simp only [List.getElem_toArray, List.getElem_cons_zero, List.getElem_cons_succ, Act.put, List.setIfInBounds_toArray, List.set_cons_zero, List.set_cons_succ]
            refine wpAnyH_take (i := 6) (v := ?_) rfl (by kernel_rfl) (by kernel_rfl) (by kernel_rfl) (fun _ _ _ h => h) (Or.inl ⟨by kernel_rfl, ?_⟩) (by assumption) ?_
            rotate_left
            · intro w hSw
              (try dsimp only at hSw)
              go_simp
              first | done | with_reducible rfl
            simp only [List.getElem_toArray, List.getElem_cons_zero, List.getElem_cons_succ, Act.put, List.setIfInBounds_toArray, List.set_cons_zero, List.set_cons_succ]
            refine wpAnyH_take (i := 7) (v := ?_) rfl (by kernel_rfl) (by kernel_rfl) (by kernel_rfl) (fun _ _ _ h => h) (Or.inl ⟨by kernel_rfl, ?_⟩) (by assumption) ?_
            rotate_left
            · intro w hSw
              (try dsimp only at hSw)
              go_simp
              first | done | with_reducible rfl
            simp only [List.getElem_toArray, List.getElem_cons_zero, List.getElem_cons_succ, Act.put, List.setIfInBounds_toArray, List.set_cons_zero, List.set_cons_succ]
            refine wpAnyH_take (i := 8) (v := ?_) rfl (by kernel_rfl) (by kernel_rfl) (by kernel_rfl) (fun _ _ _ h => h) (Or.inl ⟨by kernel_rfl, ?_⟩) (by assumption) ?_
            rotate_left
            · intro w hSw
              (try dsimp only at hSw)
              go_simp
              first | done | with_reducible rfl
            simp only [List.getElem_toArray, List.getElem_cons_zero, List.getElem_cons_succ, Act.put, List.setIfInBounds_toArray, List.set_cons_zero, List.set_cons_succ]
            refine wpAnyH_ready (rs := [9]) (by kernel_rfl) (by simp) ?_
            refine AllReadyH.cons rfl (fun K hK => ?_) ?_
            · simp only [List.getElem_toArray, List.getElem_cons_zero, List.getElem_cons_succ]
              go_simp
              refine hK.out _ _ trivial (fun hHeld => ?_)
              clear hK K
              try simp only [List.getElem_toArray, List.getElem_cons_zero, List.getElem_cons_succ, Act.put, List.setIfInBounds_toArray, List.set_cons_zero, List.set_cons_succ]
              refine wpAnyH_done (by kernel_rfl) ?_ _
              dsimp only [NoPanic]
              clear hHeld x9 y9 f9
              have hX9 : X < B9 := by have := hX8; have : W8.drew.heap.size = W8.heap.size := rfl; omega
              have e10 : (IntKind.i64.wrap 400441751).tmod 1073741789 = 400441751 := by decide +kernel
              rw [e10]
              obtain ⟨w10, hw10⟩ : ∃ x, x = (wc.setCell ⟨B9, 0, none⟩ (.int .i64 400441751)).drew := ⟨_, rfl⟩
              rw [← hw10]
              have gX10 : w10.heap[X]? = some (.cells #[.string annB, .int .i64 290, .slice A 6 ca, .slice (some ⟨B9, 0, none⟩) 6 cb9, .int .u64 root.toNat] 43 (0, 0)) := by rw [hw10]; exact (Below.heap_setCell _ _ _ _ (show X ≠ B9 by omega)).trans K9.out.1
              have hSA10 : Sl w10 w10.heap.size 3 A 6 (rowsV R1) := by rw [hw10]; exact sl_off K9.out.2.2.1 HAc.out hb9
              have hSB10 : Sl w10 w10.heap.size 1 (some ⟨B9, 0, none⟩) 6 (intV bl2) := by rw [hw10]; exact sl_set0 (xs := intV bl1) K9.out.2.1 K9.out.2.2.2 (by decide)
              have hB10 : Below w.heap.size w w10 := by
                rw [hw10]
                have := hB03.size
                exact ((bgo hB03 hB9).setCell (show w.heap.size ≤ B9 by omega) _).drew
              have K10 := Lib.hid (And.intro gX10 (And.intro hSA10 hSB10))
              have hX10 : X < w10.heap.size := (Array.getElem?_eq_some_iff.1 gX10).1
              clear gX10 hSA10 hSB10 hw10 e10 hX9 K9
              go_wp2_with fail
              refine (leafP_at ⟨#[110, 101, 116]⟩ 144 ⟨#[114, 101, 115, 116]⟩ ⟨#[51, 58, 110, 101, 116, 49, 52, 52, 32, 114, 101, 115, 116]⟩ (Lib.hid (by decide +kernel)) ⟨by decide, by decide⟩ (by decide) (by decide) w10 (hT.go hB10)).mono ?_
              rintro e w11 ⟨rfl, hB11⟩
              go_wp2_with fail
              refine (valid0 w11 (hT.go (bgo hB10 hB11))).mono ?_
              rintro e w12 ⟨rfl, hB12⟩
              have hB13 := bgo hB11 hB12
              have g12 := (hB13.block _ hX10).trans K10.out.1
              have k0 : w12.cell? ⟨X, 0, none⟩ = some (.string ⟨#[97, 110, 110]⟩) := by rw [Lib.cell_of_heap g12]; rfl
              have k1 : w12.cell? ⟨X, 1, none⟩ = some (.int .i64 290) := by rw [Lib.cell_of_heap g12]; rfl
              have k2 : w12.cell? ⟨X, 2, none⟩ = some (.slice A 6 ca) := by rw [Lib.cell_of_heap g12]; rfl
              have k3 : w12.cell? ⟨X, 3, none⟩ = some (.slice (some ⟨B9, 0, none⟩) 6 cb9) := by rw [Lib.cell_of_heap g12]; rfl
              have k4 : w12.cell? ⟨X, 4, none⟩ = some (.int .u64 root.toNat) := by rw [Lib.cell_of_heap g12]; rfl
              go_wp2_with fail
              refine (valid2 A (some ⟨B9, 0, none⟩) ca cb9 root Hroot w12 (hT.go (bgo hB10 hB13)) (K10.out.2.1.go hB13) (K10.out.2.2.go hB13)).mono ?_
              rintro e w14 ⟨rfl, hB14⟩
              go_wp2_with fail
              go_ret
              exact ⟨rfl, bgo hB10 (bgo hB13 hB14)⟩
            exact AllReadyH.nil
          exact AllReadyH.nil
        exact AllReadyH.nil
      refine AllReadyH.cons rfl (fun K hK => ?_) ?_
      · simp only [List.getElem_toArray, List.getElem_cons_zero, List.getElem_cons_succ]
        go_simp
        refine hK.out _ _ trivial (fun hHeld => ?_)
        clear hK K
        try simp only [List.getElem_toArray, List.getElem_cons_zero, List.getElem_cons_succ, Act.put, List.setIfInBounds_toArray, List.set_cons_zero, List.set_cons_succ]
        refine wpAnyH_take (i := 4) (v := ?_) rfl (by kernel_rfl) (by kernel_rfl) (by kernel_rfl) (fun _ _ _ h => h) (Or.inl ⟨by kernel_rfl, ?_⟩) (by assumption) ?_
        rotate_left
        · intro w hSw
          (try dsimp only at hSw)
          go_simp
          first | done | with_reducible rfl
        simp only [List.getElem_toArray, List.getElem_cons_zero, List.getElem_cons_succ, Act.put, List.setIfInBounds_toArray, List.set_cons_zero, List.set_cons_succ]
        refine wpAnyH_ready (rs := [1, 5]) (by kernel_rfl) (by simp) ?_
        refine AllReadyH.cons rfl (fun K hK => ?_) ?_
        · simp only [List.getElem_toArray, List.getElem_cons_zero, List.getElem_cons_succ]
          go_simp
          refine hK.out _ _ trivial (fun hHeld => ?_)
          clear hK K
          try simp only [List.getElem_toArray, List.getElem_cons_zero, List.getElem_cons_succ, Act.put, List.setIfInBounds_toArray, List.set_cons_zero, List.set_cons_succ]
          refine wpAnyH_ready (rs := [5]) (by kernel_rfl) (by simp) ?_
          refine AllReadyH.cons rfl (fun K hK => ?_) ?_
          · simp only [List.getElem_toArray, List.getElem_cons_zero, List.getElem_cons_succ]
            go_simp
            refine hK.out _ _ trivial (fun hHeld => ?_)
            clear hK K
            try simp only [List.getElem_toArray, List.getElem_cons_zero, List.getElem_cons_succ, Act.put, List.setIfInBounds_toArray, List.set_cons_zero, List.set_cons_succ]
            refine wpAnyH_take (i := 6) (v := ?_) rfl (by kernel_rfl) (by kernel_rfl) (by kernel_rfl) (fun _ _ _ h => h) (Or.inl ⟨by kernel_rfl, ?_⟩) (by assumption) ?_
            rotate_left
            · intro w hSw
              (try dsimp only at hSw)
              go_simp
              first | done | with_reducible rfl
            simp only [List.getElem_toArray, List.getElem_cons_zero, List.getElem_cons_succ, Act.put, List.setIfInBounds_toArray, List.set_cons_zero, List.set_cons_succ]
            refine wpAnyH_take (i := 7) (v := ?_) rfl (by kernel_rfl) (by kernel_rfl) (by kernel_rfl) (fun _ _ _ h => h) (Or.inl ⟨by kernel_rfl, ?_⟩) (by assumption) ?_
            rotate_left
            · intro w hSw
              (try dsimp only at hSw)
              go_simp
              first | done | with_reducible rfl
            simp only [List.getElem_toArray, List.getElem_cons_zero, List.getElem_cons_succ, Act.put, List.setIfInBounds_toArray, List.set_cons_zero, List.set_cons_succ]
            refine wpAnyH_take (i := 8) (v := ?_) rfl (by kernel_rfl) (by kernel_rfl) (by kernel_rfl) (fun _ _ _ h => h) (Or.inl ⟨by kernel_rfl, ?_⟩) (by assumption) ?_
            rotate_left
            · intro w hSw
              (try dsimp only at hSw)
              go_simp
              first | done | with_reducible rfl
            simp only [List.getElem_toArray, List.getElem_cons_zero, List.getElem_cons_succ, Act.put, List.setIfInBounds_toArray, List.set_cons_zero, List.set_cons_succ]
            refine wpAnyH_ready (rs := [9]) (by kernel_rfl) (by simp) ?_
            refine AllReadyH.cons rfl (fun K hK => ?_) ?_
            · simp only [List.getElem_toArray, List.getElem_cons_zero, List.getElem_cons_succ]
              go_simp
              refine hK.out _ _ trivial (fun hHeld => ?_)
              clear hK K
              try simp only [List.getElem_toArray, List.getElem_cons_zero, List.getElem_cons_succ, Act.put, List.setIfInBounds_toArray, List.set_cons_zero, List.set_cons_succ]
              refine wpAnyH_done (by kernel_rfl) ?_ _
              dsimp only [NoPanic]
              clear hHeld x9 y9 f9
              have hX9 : X < B9 := by have := hX8; have : W8.drew.heap.size = W8.heap.size := rfl; omega
              have e10 : (IntKind.i64.wrap 400441751).tmod 1073741789 = 400441751 := by decide +kernel
              rw [e10]
              obtain ⟨w10, hw10⟩ : ∃ x, x = (wc.setCell ⟨B9, 0, none⟩ (.int .i64 400441751)).drew := ⟨_, rfl⟩
              rw [← hw10]
              have gX10 : w10.heap[X]? = some (.cells #[.string annB, .int .i64 290, .slice A 6 ca, .slice (some ⟨B9, 0, none⟩) 6 cb9, .int .u64 root.toNat] 43 (0, 0)) := by rw [hw10]; exact (Below.heap_setCell _ _ _ _ (show X ≠ B9 by omega)).trans K9.out.1
              have hSA10 : Sl w10 w10.heap.size 3 A 6 (rowsV R1) := by rw [hw10]; exact sl_off K9.out.2.2.1 HAc.out hb9
              have hSB10 : Sl w10 w10.heap.size 1 (some ⟨B9, 0, none⟩) 6 (intV bl2) := by rw [hw10]; exact sl_set0 (xs := intV bl1) K9.out.2.1 K9.out.2.2.2 (by decide)
              have hB10 : Below w.heap.size w w10 := by
                rw [hw10]
                have := hB03.size
                exact ((bgo hB03 hB9).setCell (show w.heap.size ≤ B9 by omega) _).drew
              have K10 := Lib.hid (And.intro gX10 (And.intro hSA10 hSB10))
              have hX10 : X < w10.heap.size := (Array.getElem?_eq_some_iff.1 gX10).1
              clear gX10 hSA10 hSB10 hw10 e10 hX9 K9
              go_wp2_with fail
              refine (leafP_at ⟨#[110, 101, 116]⟩ 144 ⟨#[114, 101, 115, 116]⟩ ⟨#[51, 58, 110, 101, 116, 49, 52, 52, 32, 114, 101, 115, 116]⟩ (Lib.hid (by decide +kernel)) ⟨by decide, by decide⟩ (by decide) (by decide) w10 (hT.go hB10)).mono ?_
              rintro e w11 ⟨rfl, hB11⟩
              go_wp2_with fail
              refine (valid0 w11 (hT.go (bgo hB10 hB11))).mono ?_
              rintro e w12 ⟨rfl, hB12⟩
              have hB13 := bgo hB11 hB12
              have g12 := (hB13.block _ hX10).trans K10.out.1
              have k0 : w12.cell? ⟨X, 0, none⟩ = some (.string ⟨#[97, 110, 110]⟩) := by rw [Lib.cell_of_heap g12]; rfl
              have k1 : w12.cell? ⟨X, 1, none⟩ = some (.int .i64 290) := by rw [Lib.cell_of_heap g12]; rfl
              have k2 : w12.cell? ⟨X, 2, none⟩ = some (.slice A 6 ca) := by rw [Lib.cell_of_heap g12]; rfl
              have k3 : w12.cell? ⟨X, 3, none⟩ = some (.slice (some ⟨B9, 0, none⟩) 6 cb9) := by rw [Lib.cell_of_heap g12]; rfl
              have k4 : w12.cell? ⟨X, 4, none⟩ = some (.int .u64 root.toNat) := by rw [Lib.cell_of_heap g12]; rfl
              go_wp2_with fail
              refine (valid2 A (some ⟨B9, 0, none⟩) ca cb9 root Hroot w12 (hT.go (bgo hB10 hB13)) (K10.out.2.1.go hB13) (K10.out.2.2.go hB13)).mono ?_
              rintro e w14 ⟨rfl, hB14⟩
              go_wp2_with fail
              go_ret
              exact ⟨rfl, bgo hB10 (bgo hB13 hB14)⟩
            exact AllReadyH.nil
          exact AllReadyH.nil
        refine AllReadyH.cons rfl (fun K hK => ?_) ?_
        · simp only [List.getElem_toArray, List.getElem_cons_zero, List.getElem_cons_succ]
          go_simp
          refine hK.out _ _ trivial (fun hHeld => ?_)
          clear hK K
          try simp only [List.getElem_toArray, List.getElem_cons_zero, List.getElem_cons_succ, Act.put, List.setIfInBounds_toArray, List.set_cons_zero, List.set_cons_succ]
          refine wpAnyH_take (i := 6) (v := ?_) rfl (by kernel_rfl) (by kernel_rfl) (by kernel_rfl) (fun _ _ _ h => h) (Or.inl ⟨by kernel_rfl, ?_⟩) (by assumption) ?_
          rotate_left
          · intro w hSw
            (try dsimp only at hSw)
            go_simp
            first | done | with_reducible rfl
          simp only [List.getElem_toArray, List.getElem_cons_zero, List.getElem_cons_succ, Act.put, List.setIfInBounds_toArray, List.set_cons_zero, List.set_cons_succ]
          refine wpAnyH_take (i := 7) (v := ?_) rfl (by kernel_rfl) (by kernel_rfl) (by kernel_rfl) (fun _ _ _ h => h) (Or.inl ⟨by kernel_rfl, ?_⟩) (by assumption) ?_
          rotate_left
          · intro w hSw
            (try dsimp only at hSw)
            go_simp
            first | done | with_reducible rfl
          simp only [List.getElem_toArray, List.getElem_cons_zero, List.getElem_cons_succ, Act.put, List.setIfInBounds_toArray, List.set_cons_zero, List.set_cons_succ]
          refine wpAnyH_ready (rs := [1]) (by kernel_rfl) (by simp) ?_
          refine AllReadyH.cons rfl (fun K hK => ?_) ?_
          · simp only [List.getElem_toArray, List.getElem_cons_zero, List.getElem_cons_succ]
            go_simp
            refine hK.out _ _ trivial (fun hHeld => ?_)
            clear hK K
            try simp only [List.getElem_toArray, List.getElem_cons_zero, List.getElem_cons_succ, Act.put, List.setIfInBounds_toArray, List.set_cons_zero, List.set_cons_succ]
            refine wpAnyH_take (i := 8) (v := ?_) rfl (by kernel_rfl) (by kernel_rfl) (by kernel_rfl) (fun _ _ _ h => h) (Or.inl ⟨by kernel_rfl, ?_⟩) (by assumption) ?_
            rotate_left
            · intro w hSw
              (try dsimp only at hSw)
              go_simp
              first | done | with_reducible rfl
            simp only [List.getElem_toArray, List.getElem_cons_zero, List.getElem_cons_succ, Act.put, List.setIfInBounds_toArray, List.set_cons_zero, List.set_cons_succ]
            refine wpAnyH_ready (rs := [9]) (by kernel_rfl) (by simp) ?_
            refine AllReadyH.cons rfl (fun K hK => ?_) ?_
            · simp only [List.getElem_toArray, List.getElem_cons_zero, List.getElem_cons_succ]
              go_simp
              refine hK.out _ _ trivial (fun hHeld => ?_)
              clear hK K
              try simp only [List.getElem_toArray, List.getElem_cons_zero, List.getElem_cons_succ, Act.put, List.setIfInBounds_toArray, List.set_cons_zero, List.set_cons_succ]
              refine wpAnyH_done (by kernel_rfl) ?_ _
              dsimp only [NoPanic]
              clear hHeld x9 y9 f9
              have hX9 : X < B9 := by have := hX8; have : W8.drew.heap.size = W8.heap.size := rfl; omega
              have e10 : (IntKind.i64.wrap 400441751).tmod 1073741789 = 400441751 := by decide +kernel
              rw [e10]
              obtain ⟨w10, hw10⟩ : ∃ x, x = (wc.setCell ⟨B9, 0, none⟩ (.int .i64 400441751)).drew := ⟨_, rfl⟩
              rw [← hw10]
              have gX10 : w10.heap[X]? = some (.cells #[.string annB, .int .i64 290, .slice A 6 ca, .slice (some ⟨B9, 0, none⟩) 6 cb9, .int .u64 root.toNat] 43 (0, 0)) := by rw [hw10]; exact (Below.heap_setCell _ _ _ _ (show X ≠ B9 by omega)).trans K9.out.1
              have hSA10 : Sl w10 w10.heap.size 3 A 6 (rowsV R1) := by rw [hw10]; exact sl_off K9.out.2.2.1 HAc.out hb9
              have hSB10 : Sl w10 w10.heap.size 1 (some ⟨B9, 0, none⟩) 6 (intV bl2) := by rw [hw10]; exact sl_set0 (xs := intV bl1) K9.out.2.1 K9.out.2.2.2 (by decide)
              have hB10 : Below w.heap.size w w10 := by
                rw [hw10]
                have := hB03.size
                exact ((bgo hB03 hB9).setCell (show w.heap.size ≤ B9 by omega) _).drew
              have K10 := Lib.hid (And.intro gX10 (And.intro hSA10 hSB10))
              have hX10 : X < w10.heap.size := (Array.getElem?_eq_some_iff.1 gX10).1
              clear gX10 hSA10 hSB10 hw10 e10 hX9 K9
              go_wp2_with fail
              refine (leafP_at ⟨#[110, 101, 116]⟩ 144 ⟨#[114, 101, 115, 116]⟩ ⟨#[51, 58, 110, 101, 116, 49, 52, 52, 32, 114, 101, 115, 116]⟩ (Lib.hid (by decide +kernel)) ⟨by decide, by decide⟩ (by decide) (by decide) w10 (hT.go hB10)).mono ?_
              rintro e w11 ⟨rfl, hB11⟩
              go_wp2_with fail
              refine (valid0 w11 (hT.go (bgo hB10 hB11))).mono ?_
              rintro e w12 ⟨rfl, hB12⟩
              have hB13 := bgo hB11 hB12
              have g12 := (hB13.block _ hX10).trans K10.out.1
              have k0 : w12.cell? ⟨X, 0, none⟩ = some (.string ⟨#[97, 110, 110]⟩) := by rw [Lib.cell_of_heap g12]; rfl
              have k1 : w12.cell? ⟨X, 1, none⟩ = some (.int .i64 290) := by rw [Lib.cell_of_heap g12]; rfl
              have k2 : w12.cell? ⟨X, 2, none⟩ = some (.slice A 6 ca) := by rw [Lib.cell_of_heap g12]; rfl
              have k3 : w12.cell? ⟨X, 3, none⟩ = some (.slice (some ⟨B9, 0, none⟩) 6 cb9) := by rw [Lib.cell_of_heap g12]; rfl
              have k4 : w12.cell? ⟨X, 4, none⟩ = some (.int .u64 root.toNat) := by rw [Lib.cell_of_heap g12]; rfl
              go_wp2_with fail
              refine (valid2 A (some ⟨B9, 0, none⟩) ca cb9 root Hroot w12 (hT.go (bgo hB10 hB13)) (K10.out.2.1.go hB13) (K10.out.2.2.go hB13)).mono ?_
              rintro e w14 ⟨rfl, hB14⟩
              go_wp2_with fail
              go_ret
              exact ⟨rfl, bgo hB10 (bgo hB13 hB14)⟩
            exact AllReadyH.nil
          exact AllReadyH.nil
        exact AllReadyH.nil
      exact AllReadyH.nil
end Go.Proofs.YtfjkmhbipkoefaaDoor
