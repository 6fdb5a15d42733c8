/- A payslip of a result in a box, for the laws of layer 35. More on payslips in boxes, for the laws of layer 35. Plain facts for PayslipRows. -/
import Derived.Test.YtgkilaafeconlaaDoorPsRes1
import Derived.Test.YtgkilaafeconlaaDoorJA
import Derived.OpenShut
import Derived.Test.YtgkilaafeconlaaDoorJD
import Derived.Test.YtgkilaafeconlaaDoorJC
namespace Go.Proofs.YtgkilaafeconlaaDoor
open Go.RowKit Go.Shelf
set_option linter.unusedVariables false
set_option linter.unusedSimpArgs false
set_option maxRecDepth 100000
theorem PTabs.grp {w : World} (h : PTabs w) : GTab w := h.2
theorem sl_ne_lt {W : World} {size n : Nat} {A : Option Addr} {xs : List Value} {X : Nat} {cs : Array Value} {t : TypeId} {fr : Nat × Nat} (h : Sl W W.heap.size size A n xs) (hX : W.heap[X]? = some (.cells cs t fr)) (hlt : cs.size < n * size) : ∀ b off, A = some ⟨b, off, none⟩ → b ≠ X := by
  rintro b off rfl rfl
  obtain ⟨b', off', e, hb, hc⟩ := h.2 (by rcases Nat.eq_zero_or_pos n with rfl | h; · simp at hlt
                                          · exact h)
  injection e with e; injection e with e1 e2
  subst e1; subst e2
  have h1 := hc (n * size - 1) _ (List.getElem?_eq_getElem (by rw [h.1]; omega))
  rw [Lib.cell_of_heap hX] at h1
  have := (Array.getElem?_eq_some_iff.1 h1).1
  omega
theorem sl_ne_0 {W : World} {size n : Nat} {A : Option Addr} {xs : List Value} {X : Nat} {cs : Array Value} {t : TypeId} {fr : Nat × Nat} (h : Sl W W.heap.size size A n xs) (hX : W.heap[X]? = some (.cells cs t fr)) (hn : 0 < n * size) (hlt : cs.size ≤ n * size) (h0 : xs[0]? ≠ cs[0]?) : ∀ b off, A = some ⟨b, off, none⟩ → b ≠ X := by
  rintro b off rfl rfl
  obtain ⟨b', off', e, hb, hc⟩ := h.2 (by rcases Nat.eq_zero_or_pos n with rfl | h; · simp at hn
                                          · exact h)
  injection e with e; injection e with e1 e2
  subst e1; subst e2
  have h1 := hc (n * size - 1) _ (List.getElem?_eq_getElem (by rw [h.1]; omega))
  rw [Lib.cell_of_heap hX] at h1
  have h2 := (Array.getElem?_eq_some_iff.1 h1).1
  have hoff : off = 0 := by omega
  subst hoff
  have hx0 : 0 < xs.length := by rw [h.1]; exact hn
  have h3 := hc 0 _ (List.getElem?_eq_getElem hx0)
  rw [Lib.cell_of_heap hX] at h3
  exact h0 ((List.getElem?_eq_getElem hx0).trans h3.symm)
theorem sl_set5 {W : World} {size n : Nat} {A : Option Addr} {xs : List Value} {X : Nat} (h : Sl W W.heap.size size A n xs) (hb : ∀ b off, A = some ⟨b, off, none⟩ → b ≠ X) (v0 v1 v2 v3 v4 : Value) :
    Sl (((((W.setCell ⟨X, 0, none⟩ v0).setCell ⟨X, 1, none⟩ v1).setCell ⟨X, 2, none⟩ v2).setCell ⟨X, 3, none⟩ v3).setCell ⟨X, 4, none⟩ v4) (((((W.setCell ⟨X, 0, none⟩ v0).setCell ⟨X, 1, none⟩ v1).setCell ⟨X, 2, none⟩ v2).setCell ⟨X, 3, none⟩ v3).setCell ⟨X, 4, none⟩ v4).heap.size size A n xs :=
  sl_keep h (by simp [World.setCell]) fun b _ ⟨off, e⟩ => heap_set5 _ _ _ _ _ _ _ _ (hb b off e)
abbrev sheetO (p : ByteArray) (m : Int) (A : Option Addr) (n ca : Nat) (B : Option Addr) (k cb : Nat) (root : UInt64) : Obj := .cells #[.string p, .int .i64 m, .slice A n ca, .slice B k cb, .int .u64 root.toNat] 43 (0, 0)
/-- A payslip of a result lies in a box. -/
structure BoxIs (w1 : World) (month : Int) (ls : List Quad) (os : List Int) (s : SlipM) (sd : ByteArray) (X : Nat) (A : Option Addr) (ca : Nat) (B : Option Addr) (cb n : Nat) (dp : ByteArray) (dm : Int) (dr : List RowD) (db : List Int) (dt : UInt64) (wx : World) : Prop where
  is : ResIs month ls os s
  d : resS s sd = ⟨dp, dm, dr, db, dt⟩
  n1 : dr.length = n
  n2 : db.length = n
  n5 : 5 ≤ n
  n30 : n ≤ 30
  g : wx.heap[X]? = some (sheetO dp dm A n ca B n cb dt)
  sa : Sl wx wx.heap.size 3 A n (rowsV dr)
  sb : Sl wx wx.heap.size 1 B n (intV db)
  ca_ : n ≤ ca ∧ ca ≤ maxLen
  cb_ : n ≤ cb ∧ cb ≤ maxLen
  x3 : w1.heap.size ≤ X
  bel : Below w1.heap.size w1 wx
theorem BoxIs.go {w1 : World} {month : Int} {ls : List Quad} {os : List Int} {s : SlipM} {sd : ByteArray} {X : Nat} {A : Option Addr} {ca : Nat} {B : Option Addr} {cb n : Nat} {dp : ByteArray} {dm : Int} {dr : List RowD} {db : List Int} {dt : UInt64} {wx W : World} (h : BoxIs w1 month ls os s sd X A ca B cb n dp dm dr db dt wx) (k : Below wx.heap.size wx W) :
    BoxIs w1 month ls os s sd X A ca B cb n dp dm dr db dt W :=
  ⟨h.is, h.d, h.n1, h.n2, h.n5, h.n30, (k.block _ (Array.getElem?_eq_some_iff.1 h.g).1).trans h.g, h.sa.go k, h.sb.go k, h.ca_, h.cb_, h.x3, bgo h.bel k⟩
theorem box_rows {month : Int} {ls : List Quad} {os : List Int} {s : SlipM} {sd : ByteArray} {dp : ByteArray} {dm : Int} {dr : List RowD} {db : List Int} {dt : UInt64} (h : resS s sd = ⟨dp, dm, dr, db, dt⟩) (hs : ResIs month ls os s) :
    dr = resR s ∧ db = blindL s.person s.month sd dr.length ∧ dp = annB ∧ (0 ≤ dm ∧ dm ≤ 1199) ∧ dt = rootV (leafK dr db dr.length) ∧ db.length = dr.length ∧ 5 ≤ dr.length ∧ dr.length ≤ 30 := by
  unfold resS at h
  injection h with h1 h2 h3 h4 h5
  have hl := res_len hs
  have hm := pickF_lt month 1200 (by omega)
  refine ⟨h3.symm, by rw [← h4, ← h3], by rw [← h1]; exact hs.person, by rw [← h2, hs.month]; omega, by rw [← h5, ← h4, ← h3], by rw [← h4, ← h3, blindL_len], by rw [← h3]; exact hl.1, by rw [← h3]; exact hl.2⟩
theorem boxIs_of {w1 W : World} {month : Int} {ls : List Quad} {os : List Int} {s : SlipM} {sd : ByteArray} {X : Nat} {A : Option Addr} {ca : Nat} {B : Option Addr} {cb n m : Nat} {dp : ByteArray} {dm : Int} {dr : List RowD} {db : List Int} {dt : UInt64} (hs : ResIs month ls os s) (hd : resS s sd = ⟨dp, dm, dr, db, dt⟩) (hn : dr.length = n) (hm : db.length = m)
    (gX : W.heap[X]? = some (.cells #[.string ⟨#[]⟩, .int .i64 0, .slice none 0 0, .slice none 0 0, .int .u64 0] 43)) (hA : Sl W W.heap.size 3 A n (rowsV dr)) (hB : Sl W W.heap.size 1 B m (intV db)) (hca : n ≤ ca ∧ ca ≤ maxLen) (hcb : m ≤ cb ∧ cb ≤ maxLen) (hX3 : w1.heap.size ≤ X) (hb : Below w1.heap.size w1 W) :
    n = m ∧ BoxIs w1 month ls os s sd X A ca B cb n dp dm dr db dt (((((W.setCell ⟨X, 0, none⟩ (.string dp)).setCell ⟨X, 1, none⟩ (.int .i64 dm)).setCell ⟨X, 2, none⟩ (.slice A n ca)).setCell ⟨X, 3, none⟩ (.slice B m cb)).setCell ⟨X, 4, none⟩ (.int .u64 dt.toNat)) := by
  obtain ⟨h1, h2, h3, h4, h5, h6, h7, h8⟩ := box_rows hd hs
  have hnm : n = m := by omega
  subst hnm
  refine ⟨rfl, hs, hd, hn, hm, by omega, by omega, ?_, ?_, ?_, hca, hcb, hX3, ?_⟩
  · rw [setCell_heap (setCell_heap (setCell_heap (setCell_heap (setCell_heap gX))))]
    rfl
  · exact sl_set5 hA (sl_ne_lt hA gX (by show 5 < _; omega)) _ _ _ _ _
  · refine sl_set5 hB (sl_ne_0 hB gX (by omega) (by show 5 ≤ _; omega) ?_) _ _ _ _ _
    cases db with
    | nil => simp at hm; omega
    | cons x db => intro h; simp [intV] at h
  · exact ((((hb.setCell hX3 _).setCell hX3 _).setCell hX3 _).setCell hX3 _).setCell hX3 _
theorem sd_ok {sd : ByteArray} (h : sd.size ≤ 64) : sd.size ≤ maxLen := by unfold maxLen; omega
theorem result_at (month : Int) (LA : Option Addr) (lc : Nat) (ls : List Quad) (N : Nat) (OA : Option Addr) (oc : Nat) (os : List Int) (M : Nat) (w : World) (hN : Hid (ls.length = N)) (hM : Hid (os.length = M)) (hm : Hid (I64 month)) (hls : Hid (N ≤ maxLen ∧ ∀ q ∈ ls, QuadOk q)) (hos : Hid (M ≤ maxLen ∧ ∀ x ∈ os, I64 x)) (hL : Sl w w.heap.size 4 LA N (ls.flatMap quadV)) (hO : Sl w w.heap.size 1 OA M (intV os)) :
    Calls Tryd.prog 11 #[.int .i64 month, .slice LA N lc, .slice OA M oc] w (ResP w month ls os) := by
  have e1 := hN.out
  have e2 := hM.out
  subst e1
  subst e2
  exact result_any month LA lc ls OA oc os w hm.out hls.out.2 hos.out.2 hL hO hls.out.1 hos.out.1
end Go.Proofs.YtgkilaafeconlaaDoor
namespace Go.Proofs.YtgkilaafeconlaaDoor
open Go.RowKit Go.Shelf
set_option linter.unusedVariables false
set_option linter.unusedSimpArgs false
set_option maxRecDepth 100000
theorem res_size {month : Int} {ls : List Quad} {os : List Int} {s : SlipM} {LA AA : Option Addr} {w : World} (h : ResIs month ls os s) (hc : CaseOk w (case0 LA AA)) (hs : SlipOk w s) : ∀ x ∈ resR s, x.l.size ≤ 70368744177000 ∧ x.r.size ≤ 70368744177000 ∧ I64 x.c :=
  fun x hx => rowsL_size hc hs (res_fits h LA AA) x (by rw [rows_case (res_line h) LA AA]; exact hx)
theorem seal_longS (c : CaseM) (s : SlipM) (seed : ByteArray) (h : 64 < seed.size) : sealS c s seed = ⟨⟨#[]⟩, 0, [], [], 0⟩ := by
  unfold sealS
  rw [seal_long c s seed h]
  exact if_neg (by decide)
theorem box_ne_a {w1 : World} {month : Int} {ls : List Quad} {os : List Int} {s : SlipM} {sd : ByteArray} {X : Nat} {A : Option Addr} {ca : Nat} {B : Option Addr} {cb n : Nat} {dp : ByteArray} {dm : Int} {dr : List RowD} {db : List Int} {dt : UInt64} {wx : World} (h : BoxIs w1 month ls os s sd X A ca B cb n dp dm dr db dt wx)
    {X' : Nat} {cs : Array Value} {t : TypeId} {fr : Nat × Nat} (g : wx.heap[X']? = some (.cells cs t fr)) (h5 : cs.size ≤ 5) : ∀ b off, A = some ⟨b, off, none⟩ → b ≠ X' :=
  sl_ne_lt h.sa g (by have := h.n5; omega)
theorem box_ne_b {w1 : World} {month : Int} {ls : List Quad} {os : List Int} {s : SlipM} {sd : ByteArray} {X : Nat} {A : Option Addr} {ca : Nat} {B : Option Addr} {cb n : Nat} {dp : ByteArray} {dm : Int} {dr : List RowD} {db : List Int} {dt : UInt64} {wx : World} (h : BoxIs w1 month ls os s sd X A ca B cb n dp dm dr db dt wx)
    {X' : Nat} {p : ByteArray} {cs : List Value} {t : TypeId} {fr : Nat × Nat} (g : wx.heap[X']? = some (.cells (.string p :: cs).toArray t fr)) (h5 : cs.length ≤ 4) : ∀ b off, B = some ⟨b, off, none⟩ → b ≠ X' := by
  refine sl_ne_0 h.sb g (by have := h.n5; omega) (by have := h.n5; simp; omega) ?_
  have hm := h.n2
  have h5 := h.n5
  cases db with
  | nil => simp at hm; omega
  | cons x db => intro h; simp [intV] at h
theorem valid_box {month : Int} {ls : List Quad} {os : List Int} {s : SlipM} {sd : ByteArray} {dp : ByteArray} {dm : Int} {dr : List RowD} {db : List Int} {dt : UInt64} (h : resS s sd = ⟨dp, dm, dr, db, dt⟩) (hs : ResIs month ls os s) : validB dp dm dr db dt = true := by
  obtain ⟨h1, h2, h3, h4, h5, h6, h7, h8⟩ := box_rows h hs
  have hn : isNameB annB = true := by decide +kernel
  have hok : okK dr db dr.length = true := by
    rw [h2]
    refine okK_blind dr _ _ _ fun x hx => ?_
    have := res_in hs x (by rw [← h1]; exact hx)
    unfold inR
    exact decide_eq_true (by omega)
  unfold validB
  rw [h3, hn, hok, ← h5, decide_eq_true h4, decide_eq_true (show 1 ≤ dr.length ∧ dr.length ≤ 1024 ∧ db.length = dr.length by omega)]
  simp
theorem rroot_at (A : Option Addr) (c n : Nat) (ss : List ByteArray) (r : UInt64) (w : World) (hn : ss.length = n) (hr : Hid (rootV ss = r)) (hA : Sl w w.heap.size 1 A n (strV ss)) (hs : ∀ s ∈ ss, s.size ≤ 140737488355328) (h1 : 1 ≤ n) (hl : n ≤ 1024) :
    Calls Tryd.prog 23 #[.slice A n c] w fun e w' => e = .returned (.tuple #[.int .u64 r.toNat, .int .i64 0]) ∧ Below w.heap.size w w' := by
  subst hn
  have := rroot_any A c ss w hA hs (by unfold maxLen; omega)
  rw [hr.out, checkE_in ⟨h1, hl⟩] at this
  exact this
theorem PTabs.calT {w : World} (h : PTabs w) : CaT.Tabs w := h.1
/-- Three payslips of one result: what they have in common. -/
theorem box_same {s : SlipM} {a b : ByteArray} {dp dp' : ByteArray} {dm dm' : Int} {dr dr' : List RowD} {db db' : List Int} {dt dt' : UInt64} (h : resS s a = ⟨dp, dm, dr, db, dt⟩) (h' : resS s b = ⟨dp', dm', dr', db', dt'⟩) : dp' = dp ∧ dm' = dm ∧ dr' = dr ∧ (a = b → db' = db ∧ dt' = dt) := by
  have h2 := h
  have h2' := h'
  unfold resS at h h'
  injection h with h1 h2 h3 h4 h5
  injection h' with h1' h2' h3' h4' h5'
  refine ⟨h1'.symm.trans h1, h2'.symm.trans h2, h3'.symm.trans h3, fun e => ?_⟩
  subst e
  exact ⟨h4'.symm.trans h4, h5'.symm.trans h5⟩
end Go.Proofs.YtgkilaafeconlaaDoor
namespace Go.Proofs.YtgkilaafeconlaaDoor
open Go.RowKit Go.Shelf
set_option linter.unusedVariables false
set_option linter.unusedSimpArgs false
theorem lineR_lab {l : List LineM} : ∀ r ∈ l.flatMap lineR, r.l = basicB ∨ r.l = unionB := by
  intro r hr
  obtain ⟨x, _, hx⟩ := List.mem_flatMap.1 hr
  unfold lineR at hx
  split at hx
  · obtain rfl := List.mem_singleton.1 hx
    dsimp only
    split
    · exact .inl rfl
    · exact .inr rfl
  · cases hx
def gF (r : RowD) : Int := if r.l = basicB then r.c else 0
def dF (r : RowD) : Int := if r.l = basicB then 0 else r.c
def sumT (f : RowD → Int) (R : List RowD) (k : Nat) : Int := ((R.take k).map f).sum
theorem sumT_snoc (f : RowD → Int) {R : List RowD} {k : Nat} {r : RowD} (h : R[k]? = some r) : sumT f R (k + 1) = sumT f R k + f r := by
  unfold sumT
  rw [List.take_add_one, h, Option.toList_some, List.map_append, List.sum_append]
  simp
theorem sumT_bd (f : RowD → Int) (R : List RowD) (h : ∀ r ∈ R, -100000000 ≤ f r ∧ f r ≤ 100000000) : ∀ k : Nat, -(100000000 * (k : Int)) ≤ sumT f R k ∧ sumT f R k ≤ 100000000 * (k : Int)
  | 0 => by simp [sumT]
  | k + 1 => by
    have h1 := sumT_bd f R h k
    cases hk : R[k]? with
    | none =>
      have hl : R.length ≤ k := List.getElem?_eq_none_iff.1 hk
      have e : sumT f R (k + 1) = sumT f R k := by
        unfold sumT
        rw [List.take_of_length_le (by omega), List.take_of_length_le hl]
      rw [e]
      omega
    | some r =>
      have h2 := h r (List.mem_of_getElem? hk)
      rw [sumT_snoc f hk]
      omega
theorem sumT_app (f : RowD → Int) (A B : List RowD) : sumT f (A ++ B) A.length = (A.map f).sum := by
  unfold sumT
  rw [List.take_left']
  rfl
theorem g_lines : ∀ l : List LineM, ((l.flatMap lineR).map gF).sum = (l.map fun x => if x.line < 2 then (if x.line = 0 then x.amt else 0) else 0).sum
  | [] => rfl
  | x :: l => by
    have ih := g_lines l
    rw [List.flatMap_cons, List.map_append, List.sum_append, ih, List.map_cons, List.sum_cons]
    congr 1
    unfold lineR
    split
    · rw [List.map_singleton, List.sum_singleton]
      unfold gF
      by_cases h : x.line = 0
      · rw [if_pos h, if_pos rfl, if_pos h]
      · rw [if_neg h, if_neg (show ¬ unionB = basicB by decide), if_neg h]
    · rfl
theorem d_lines : ∀ l : List LineM, ((l.flatMap lineR).map dF).sum = (l.map fun x => if x.line < 2 then (if x.line = 0 then 0 else x.amt) else 0).sum
  | [] => rfl
  | x :: l => by
    have ih := d_lines l
    rw [List.flatMap_cons, List.map_append, List.sum_append, ih, List.map_cons, List.sum_cons]
    congr 1
    unfold lineR
    split
    · rw [List.map_singleton, List.sum_singleton]
      unfold dF
      by_cases h : x.line = 0
      · rw [if_pos h, if_pos rfl, if_pos h]
      · rw [if_neg h, if_neg (show ¬ unionB = basicB by decide), if_neg h]
    · rfl
theorem map_lines {α : Type} {month : Int} {ls : List Quad} {os : List Int} {s : SlipM} (h : ResIs month ls os s) (f : LineM → α) (g : Quad → α) (hfg : ∀ x q, LineIs q x → f x = g q) : s.lines.map f = (ls.take 20).map g := by
  refine List.ext_getElem (by simp [h.len]) fun j h1 h2 => ?_
  rw [List.getElem_map, List.getElem_map]
  exact hfg _ _ (h.lines j _ _ (List.getElem?_eq_getElem _) (List.getElem?_eq_getElem _))
theorem res_gross {month : Int} {ls : List Quad} {os : List Int} {s : SlipM} (h : ResIs month ls os s) : ((s.lines.flatMap lineR).map gF).sum = s.gross := by
  rw [g_lines, h.gross]
  unfold grossF
  congr 1
  refine map_lines h _ _ fun x q hx => ?_
  have h2 := pickF_lt q.b 4 (by omega)
  rw [hx.line, hx.amt]
  by_cases h0 : pickF q.b 4 = 0
  · rw [if_pos (by omega), if_pos h0]
    try rw [if_pos h0]
  · rw [if_neg h0]
    split <;> rfl
theorem res_deduct {month : Int} {ls : List Quad} {os : List Int} {s : SlipM} (h : ResIs month ls os s) : ((s.lines.flatMap lineR).map dF).sum = s.deduct := by
  rw [d_lines, h.deduct]
  unfold deductF
  congr 1
  refine map_lines h _ _ fun x q hx => ?_
  have h2 := pickF_lt q.b 4 (by omega)
  rw [hx.line, hx.amt]
  by_cases h0 : pickF q.b 4 < 2
  · rw [if_pos h0]
    by_cases h1 : pickF q.b 4 = 0
    · rw [if_pos h1, if_neg (by omega)]
    · rw [if_neg h1, if_pos (by omega)]
  · rw [if_neg h0, if_neg (by omega)]
/-- The lines that count among the first k. -/
noncomputable def cntK (l : List LineM) (k : Nat) : Nat := ((l.take k).flatMap lineR).length
theorem cnt_snoc {l : List LineM} {k : Nat} {x : LineM} (h : l[k]? = some x) : cntK l (k + 1) = cntK l k + if x.line < 2 then 1 else 0 := by
  unfold cntK
  rw [List.take_add_one, h, Option.toList_some, List.flatMap_append, List.length_append]
  congr 1
  rw [List.flatMap_cons, List.flatMap_nil, List.append_nil]
  unfold lineR
  split <;> rfl
theorem cnt_le (l : List LineM) (k : Nat) : cntK l k ≤ k := by
  have := lines_len (l.take k)
  unfold cntK
  rw [List.length_take] at this
  omega
theorem cnt_all (l : List LineM) : cntK l l.length = (l.flatMap lineR).length := by
  unfold cntK
  rw [List.take_length]
theorem cnt_mono (l : List LineM) (k : Nat) (hk : k < l.length) (x : LineM) (hx : l[k]? = some x) (h : x.line < 2) : cntK l k < (l.flatMap lineR).length := by
  have e : l = l.take k ++ (x :: l.drop (k + 1)) := by
    obtain ⟨h1, h2⟩ := (List.getElem?_eq_some_iff.1 hx)
    rw [← h2, ← List.drop_eq_getElem_cons h1, List.take_append_drop]
  have hc : cntK l k = ((l.take k).flatMap lineR).length := rfl
  rw [hc]
  conv => rhs; rw [e]
  have hl : (lineR x).length = 1 := by unfold lineR; rw [if_pos h]; rfl
  rw [List.flatMap_append, List.length_append, List.flatMap_cons, List.length_append, hl]
  omega
/-- Without a line, its row is missing. -/
theorem rows_less (l : List LineM) (T : List RowD) (k : Nat) (x : LineM) (hx : l[k]? = some x) :
    (l.take k ++ l.drop (k + 1)).flatMap lineR ++ T = if x.line < 2 then (l.flatMap lineR ++ T).take (cntK l k) ++ (l.flatMap lineR ++ T).drop (cntK l k + 1) else l.flatMap lineR ++ T := by
  have e : l = l.take k ++ (x :: l.drop (k + 1)) := by
    obtain ⟨h1, h2⟩ := (List.getElem?_eq_some_iff.1 hx)
    rw [← h2, ← List.drop_eq_getElem_cons h1, List.take_append_drop]
  have e2 : l.flatMap lineR = (l.take k).flatMap lineR ++ (lineR x ++ (l.drop (k + 1)).flatMap lineR) := by
    conv => lhs; rw [e]
    rw [List.flatMap_append, List.flatMap_cons]
  have hc : cntK l k = ((l.take k).flatMap lineR).length := rfl
  rw [List.flatMap_append, e2, hc]
  generalize (l.take k).flatMap lineR = P
  generalize (l.drop (k + 1)).flatMap lineR = Q
  by_cases h : x.line < 2
  · rw [if_pos h]
    have hl : lineR x = [⟨if x.line = 0 then basicB else unionB, x.amt, reasonB [12, 14] x⟩] := by unfold lineR; rw [if_pos h]
    rw [hl]
    simp [List.append_assoc, List.take_append, List.drop_append]
  · rw [if_neg h]
    have hl : lineR x = [] := by unfold lineR; rw [if_neg h]
    rw [hl, List.nil_append]
theorem tail_get (s : SlipM) (T : List RowD) : (T ++ tailR s)[T.length]? = some ⟨⟨#[103, 114, 111, 115, 115]⟩, s.gross, ⟨#[115, 117, 109]⟩⟩ ∧ (T ++ tailR s)[T.length + 1]? = some ⟨⟨#[116, 97, 120]⟩, s.tax, ⟨#[116, 97, 120]⟩⟩ ∧ (T ++ tailR s)[T.length + 2]? = some ⟨⟨#[100, 101, 100, 117, 99, 116]⟩, s.deduct, ⟨#[115, 117, 109]⟩⟩ ∧
    (∀ j t, s.taken[j]? = some t → (T ++ tailR s)[T.length + 4 + j]? = some (orderR t)) ∧ (T ++ tailR s)[T.length + 4 + s.taken.length]? = some (netR s.net) := by
  have g : ∀ i, (T ++ tailR s)[T.length + i]? = (tailR s)[i]? := fun i => by rw [List.getElem?_append_right (by omega)]; congr 1; omega
  have e : ∀ i, (tailR s)[4 + i]? = (s.taken.map orderR ++ [netR s.net])[i]? := fun i => by
    unfold tailR
    rw [List.append_assoc, List.getElem?_append_right (by simp [sumsL])]
    congr 1
    simp [sumsL]
  refine ⟨g 0, g 1, g 2, fun j t h => ?_, ?_⟩
  · rw [Nat.add_assoc, g, e, List.getElem?_append_left (by have := (List.getElem?_eq_some_iff.1 h).1; simpa using this), List.getElem?_map, h]
    rfl
  · rw [Nat.add_assoc, g, e, List.getElem?_append_right (by simp)]
    simp
/-- The sum of the first k orders. -/
def ordK (t : List (Int × Int)) (k : Nat) : Int := ((t.take k).map (·.2)).sum
theorem ordK_snoc {t : List (Int × Int)} {k : Nat} {x : Int × Int} (h : t[k]? = some x) : ordK t (k + 1) = ordK t k + x.2 := by
  unfold ordK
  rw [List.take_add_one, h, Option.toList_some, List.map_append, List.sum_append]
  simp
theorem ordK_bd (t : List (Int × Int)) (h : ∀ x ∈ t, 0 ≤ x.2 ∧ x.2 ≤ 999) : ∀ k : Nat, 0 ≤ ordK t k ∧ ordK t k ≤ 999 * (k : Int)
  | 0 => by simp [ordK]
  | k + 1 => by
    have h1 := ordK_bd t h k
    cases hk : t[k]? with
    | none =>
      have hl : t.length ≤ k := List.getElem?_eq_none_iff.1 hk
      have e : ordK t (k + 1) = ordK t k := by
        unfold ordK
        rw [List.take_of_length_le (by omega), List.take_of_length_le hl]
      rw [e]
      omega
    | some r =>
      have h2 := h r (List.mem_of_getElem? hk)
      rw [ordK_snoc hk]
      omega
theorem res_net {month : Int} {ls : List Quad} {os : List Int} {s : SlipM} (h : ResIs month ls os s) : s.gross - s.tax - s.deduct - ordK s.taken s.taken.length = s.net := by
  rw [h.net]
  congr 1
  unfold ordK
  rw [List.take_length, h.taken]
  unfold takenF takenSum
  rw [List.map_map]
  congr 1
  refine List.ext_getElem (by simp) fun j h1 h2 => ?_
  simp [List.getD]
  rw [List.getElem?_eq_getElem (by simpa using h1)]
  simp
theorem line_fits {l : List LineM} (h : LinesIs l) : l.all (lineFit 4 2) = true :=
  List.all_eq_true.2 fun x hx => by obtain ⟨q, hq⟩ := h x hx; exact line_fit hq
/-- The rows of a result with other lines. -/
theorem rows_other {month : Int} {ls : List Quad} {os : List Int} {s : SlipM} (h : ResIs month ls os s) (LA : Option Addr) (lc : Nat) (l : List LineM) (hl : LinesIs l) (hl2 : l.length ≤ 20) (A B : Option Addr) :
    rowsR (case0 A B) { s with LA := LA, lc := lc, lines := l } = l.flatMap lineR ++ tailR s ∧ rowsE (fitsB (case0 A B) { s with LA := LA, lc := lc, lines := l }) (rowsL (case0 A B) { s with LA := LA, lc := lc, lines := l }).length = 0 := by
  have e : rowsL (case0 A B) { s with LA := LA, lc := lc, lines := l } = l.flatMap lineR ++ tailR s := rows_case (s := { s with LA := LA, lc := lc, lines := l }) hl A B
  have hf : fitsB (case0 A B) { s with LA := LA, lc := lc, lines := l } = true := by
    have h1 := res_fits h A B
    unfold fitsB at h1 ⊢
    simp only [Bool.and_eq_true] at h1 ⊢
    exact ⟨h1.1, line_fits hl⟩
  have hn : (l.flatMap lineR ++ tailR s).length ≤ 1024 := by
    have h1 := lines_len l
    have h2 := res_sizes h
    rw [List.length_append, tail_len]
    omega
  constructor
  · unfold rowsR
    rw [e, if_pos ⟨hf, hn⟩]
  · rw [e, hf]
    unfold rowsE
    rw [if_pos rfl, if_pos hn]
theorem flat_takeK {α : Type} (f : α → List Value) (c : Nat) (hf : ∀ x, (f x).length = c) : ∀ (l : List α) (k : Nat), (l.flatMap f).take (k * c) = (l.take k).flatMap f
  | [], k => by simp
  | x :: l, 0 => by simp
  | x :: l, k + 1 => by
    rw [List.flatMap_cons, List.take_succ_cons, List.flatMap_cons, ← flat_takeK f c hf l k, List.take_append, hf, Nat.add_mul, Nat.one_mul, Nat.add_sub_cancel, List.take_of_length_le (by rw [hf]; omega)]
theorem flat_dropK {α : Type} (f : α → List Value) (c : Nat) (hf : ∀ x, (f x).length = c) : ∀ (l : List α) (k : Nat), (l.flatMap f).drop (k * c) = (l.drop k).flatMap f
  | [], k => by simp
  | x :: l, 0 => by simp
  | x :: l, k + 1 => by
    rw [List.flatMap_cons, List.drop_succ_cons, ← flat_dropK f c hf l k, List.drop_append, hf, Nat.add_mul, Nat.one_mul, Nat.add_sub_cancel, List.drop_of_length_le (by rw [hf]; omega), List.nil_append]
theorem src_of {W : World} {B size n c b off : Nat} {xs : List Value} (h : Sl W B size (some ⟨b, off, none⟩) n xs) : Src W size (.slice (some ⟨b, off, none⟩) n c) n xs := by
  refine .inr ⟨_, c, rfl, h.1, fun j u hu => ?_⟩
  rcases Nat.eq_zero_or_pos n with h0 | h0
  · have hl := h.1
    rw [h0, Nat.zero_mul] at hl
    have := (List.getElem?_eq_some_iff.1 hu).1
    omega
  · obtain ⟨b', off', e, _, hc⟩ := h.2 h0
    injection e with e; injection e with e1 e2
    subst e1; subst e2
    rw [Addr.add_lit]
    exact hc j u hu
theorem Sl.dropK {W : World} {B size n b off : Nat} {xs : List Value} (h : Sl W B size (some ⟨b, off, none⟩) n xs) (k : Nat) (hk : k ≤ n) : Sl W B size (some ⟨b, off + k * size, none⟩) (n - k) (xs.drop (k * size)) := by
  refine ⟨by rw [List.length_drop, h.1, Nat.sub_mul], fun h0 => ?_⟩
  obtain ⟨b', off', e, hb, hc⟩ := h.2 (by omega)
  injection e with e; injection e with e1 e2
  subst e1; subst e2
  refine ⟨b, off + k * size, rfl, hb, fun j u hu => ?_⟩
  rw [List.getElem?_drop] at hu
  rw [Nat.add_assoc]
  exact hc _ _ hu
end Go.Proofs.YtgkilaafeconlaaDoor
