/- A payslip of a result in a box, for the laws of layer 35. -/
import Derived.Test.YtgkilaafeconlaaDoorPsRes1
import Derived.Test.YtgkilaafeconlaaDoorPsMul
import Derived.Test.YtgkilaafeconlaaDoorPsLaid
import Derived.OpenShut
namespace Go.Proofs.YtgkilaafeconlaaDoor
open Go.RowKit Go.Shelf
set_option linter.unusedVariables false
set_option linter.unusedSimpArgs false
set_option maxRecDepth 100000
theorem PTabs.grp {w : World} (h : PTabs w) : GTab w := h.2
theorem sl_ne_lt {W : World} {size n : Nat} {A : Option Addr} {xs : List Value} {X : Nat} {cs : Array Value} {t : TypeId} {fr : Nat × Nat} (h : Sl W W.heap.size size A n xs) (hX : W.heap[X]? = some (.cells cs t fr)) (hlt : cs.size < n * size) : ∀ b off, A = some ⟨b, off, none⟩ → b ≠ X := by
  rintro b off rfl rfl
  obtain ⟨b', off', e, hb, hc⟩ := h.2 (by rcases Nat.eq_zero_or_pos n with rfl | h; · simp at hlt
                                          · exact h)
  injection e with e; injection e with e1 e2
  subst e1; subst e2
  have h1 := hc (n * size - 1) _ (List.getElem?_eq_getElem (by rw [h.1]; omega))
  rw [Lib.cell_of_heap hX] at h1
  have := (Array.getElem?_eq_some_iff.1 h1).1
  omega
theorem sl_ne_0 {W : World} {size n : Nat} {A : Option Addr} {xs : List Value} {X : Nat} {cs : Array Value} {t : TypeId} {fr : Nat × Nat} (h : Sl W W.heap.size size A n xs) (hX : W.heap[X]? = some (.cells cs t fr)) (hn : 0 < n * size) (hlt : cs.size ≤ n * size) (h0 : xs[0]? ≠ cs[0]?) : ∀ b off, A = some ⟨b, off, none⟩ → b ≠ X := by
  rintro b off rfl rfl
  obtain ⟨b', off', e, hb, hc⟩ := h.2 (by rcases Nat.eq_zero_or_pos n with rfl | h; · simp at hn
                                          · exact h)
  injection e with e; injection e with e1 e2
  subst e1; subst e2
  have h1 := hc (n * size - 1) _ (List.getElem?_eq_getElem (by rw [h.1]; omega))
  rw [Lib.cell_of_heap hX] at h1
  have h2 := (Array.getElem?_eq_some_iff.1 h1).1
  have hoff : off = 0 := by omega
  subst hoff
  have hx0 : 0 < xs.length := by rw [h.1]; exact hn
  have h3 := hc 0 _ (List.getElem?_eq_getElem hx0)
  rw [Lib.cell_of_heap hX] at h3
  exact h0 ((List.getElem?_eq_getElem hx0).trans h3.symm)
theorem sl_set5 {W : World} {size n : Nat} {A : Option Addr} {xs : List Value} {X : Nat} (h : Sl W W.heap.size size A n xs) (hb : ∀ b off, A = some ⟨b, off, none⟩ → b ≠ X) (v0 v1 v2 v3 v4 : Value) :
    Sl (((((W.setCell ⟨X, 0, none⟩ v0).setCell ⟨X, 1, none⟩ v1).setCell ⟨X, 2, none⟩ v2).setCell ⟨X, 3, none⟩ v3).setCell ⟨X, 4, none⟩ v4) (((((W.setCell ⟨X, 0, none⟩ v0).setCell ⟨X, 1, none⟩ v1).setCell ⟨X, 2, none⟩ v2).setCell ⟨X, 3, none⟩ v3).setCell ⟨X, 4, none⟩ v4).heap.size size A n xs :=
  sl_keep h (by simp [World.setCell]) fun b _ ⟨off, e⟩ => heap_set5 _ _ _ _ _ _ _ _ (hb b off e)
abbrev sheetO (p : ByteArray) (m : Int) (A : Option Addr) (n ca : Nat) (B : Option Addr) (k cb : Nat) (root : UInt64) : Obj := .cells #[.string p, .int .i64 m, .slice A n ca, .slice B k cb, .int .u64 root.toNat] 43 (0, 0)
/-- A payslip of a result lies in a box. -/
structure BoxIs (w1 : World) (month : Int) (ls : List Quad) (os : List Int) (s : SlipM) (sd : ByteArray) (X : Nat) (A : Option Addr) (ca : Nat) (B : Option Addr) (cb n : Nat) (dp : ByteArray) (dm : Int) (dr : List RowD) (db : List Int) (dt : UInt64) (wx : World) : Prop where
  is : ResIs month ls os s
  d : resS s sd = ⟨dp, dm, dr, db, dt⟩
  n1 : dr.length = n
  n2 : db.length = n
  n5 : 5 ≤ n
  n30 : n ≤ 30
  g : wx.heap[X]? = some (sheetO dp dm A n ca B n cb dt)
  sa : Sl wx wx.heap.size 3 A n (rowsV dr)
  sb : Sl wx wx.heap.size 1 B n (intV db)
  ca_ : n ≤ ca ∧ ca ≤ maxLen
  cb_ : n ≤ cb ∧ cb ≤ maxLen
  x3 : w1.heap.size ≤ X
  bel : Below w1.heap.size w1 wx
theorem BoxIs.go {w1 : World} {month : Int} {ls : List Quad} {os : List Int} {s : SlipM} {sd : ByteArray} {X : Nat} {A : Option Addr} {ca : Nat} {B : Option Addr} {cb n : Nat} {dp : ByteArray} {dm : Int} {dr : List RowD} {db : List Int} {dt : UInt64} {wx W : World} (h : BoxIs w1 month ls os s sd X A ca B cb n dp dm dr db dt wx) (k : Below wx.heap.size wx W) :
    BoxIs w1 month ls os s sd X A ca B cb n dp dm dr db dt W :=
  ⟨h.is, h.d, h.n1, h.n2, h.n5, h.n30, (k.block _ (Array.getElem?_eq_some_iff.1 h.g).1).trans h.g, h.sa.go k, h.sb.go k, h.ca_, h.cb_, h.x3, bgo h.bel k⟩
theorem box_rows {month : Int} {ls : List Quad} {os : List Int} {s : SlipM} {sd : ByteArray} {dp : ByteArray} {dm : Int} {dr : List RowD} {db : List Int} {dt : UInt64} (h : resS s sd = ⟨dp, dm, dr, db, dt⟩) (hs : ResIs month ls os s) :
    dr = resR s ∧ db = blindL s.person s.month sd dr.length ∧ dp = annB ∧ (0 ≤ dm ∧ dm ≤ 1199) ∧ dt = rootV (leafK dr db dr.length) ∧ db.length = dr.length ∧ 5 ≤ dr.length ∧ dr.length ≤ 30 := by
  unfold resS at h
  injection h with h1 h2 h3 h4 h5
  have hl := res_len hs
  have hm := pickF_lt month 1200 (by omega)
  refine ⟨h3.symm, by rw [← h4, ← h3], by rw [← h1]; exact hs.person, by rw [← h2, hs.month]; omega, by rw [← h5, ← h4, ← h3], by rw [← h4, ← h3, blindL_len], by rw [← h3]; exact hl.1, by rw [← h3]; exact hl.2⟩
theorem boxIs_of {w1 W : World} {month : Int} {ls : List Quad} {os : List Int} {s : SlipM} {sd : ByteArray} {X : Nat} {A : Option Addr} {ca : Nat} {B : Option Addr} {cb n m : Nat} {dp : ByteArray} {dm : Int} {dr : List RowD} {db : List Int} {dt : UInt64} (hs : ResIs month ls os s) (hd : resS s sd = ⟨dp, dm, dr, db, dt⟩) (hn : dr.length = n) (hm : db.length = m)
    (gX : W.heap[X]? = some (.cells #[.string ⟨#[]⟩, .int .i64 0, .slice none 0 0, .slice none 0 0, .int .u64 0] 43)) (hA : Sl W W.heap.size 3 A n (rowsV dr)) (hB : Sl W W.heap.size 1 B m (intV db)) (hca : n ≤ ca ∧ ca ≤ maxLen) (hcb : m ≤ cb ∧ cb ≤ maxLen) (hX3 : w1.heap.size ≤ X) (hb : Below w1.heap.size w1 W) :
    n = m ∧ BoxIs w1 month ls os s sd X A ca B cb n dp dm dr db dt (((((W.setCell ⟨X, 0, none⟩ (.string dp)).setCell ⟨X, 1, none⟩ (.int .i64 dm)).setCell ⟨X, 2, none⟩ (.slice A n ca)).setCell ⟨X, 3, none⟩ (.slice B m cb)).setCell ⟨X, 4, none⟩ (.int .u64 dt.toNat)) := by
  obtain ⟨h1, h2, h3, h4, h5, h6, h7, h8⟩ := box_rows hd hs
  have hnm : n = m := by omega
  subst hnm
  refine ⟨rfl, hs, hd, hn, hm, by omega, by omega, ?_, ?_, ?_, hca, hcb, hX3, ?_⟩
  · rw [setCell_heap (setCell_heap (setCell_heap (setCell_heap (setCell_heap gX))))]
    rfl
  · exact sl_set5 hA (sl_ne_lt hA gX (by show 5 < _; omega)) _ _ _ _ _
  · refine sl_set5 hB (sl_ne_0 hB gX (by omega) (by show 5 ≤ _; omega) ?_) _ _ _ _ _
    cases db with
    | nil => simp at hm; omega
    | cons x db => intro h; simp [intV] at h
  · exact ((((hb.setCell hX3 _).setCell hX3 _).setCell hX3 _).setCell hX3 _).setCell hX3 _
theorem sd_ok {sd : ByteArray} (h : sd.size ≤ 64) : sd.size ≤ maxLen := by unfold maxLen; omega
theorem result_at (month : Int) (LA : Option Addr) (lc : Nat) (ls : List Quad) (N : Nat) (OA : Option Addr) (oc : Nat) (os : List Int) (M : Nat) (w : World) (hN : Hid (ls.length = N)) (hM : Hid (os.length = M)) (hm : Hid (I64 month)) (hls : Hid (N ≤ maxLen ∧ ∀ q ∈ ls, QuadOk q)) (hos : Hid (M ≤ maxLen ∧ ∀ x ∈ os, I64 x)) (hL : Sl w w.heap.size 4 LA N (ls.flatMap quadV)) (hO : Sl w w.heap.size 1 OA M (intV os)) :
    Calls Tryd.prog 11 #[.int .i64 month, .slice LA N lc, .slice OA M oc] w (ResP w month ls os) := by
  have e1 := hN.out
  have e2 := hM.out
  subst e1
  subst e2
  exact result_any month LA lc ls OA oc os w hm.out hls.out.2 hos.out.2 hL hO hls.out.1 hos.out.1
end Go.Proofs.YtgkilaafeconlaaDoor
