/- From what the rows list to the tables that the walks of payslip read. A payslip of a result in a box, for the laws of layer 35. More on payslips in boxes, for the laws of layer 35. The law package's few, and what the law of the reference holds ready (layer 35). Lists of integers and of quadruples as arguments: opened to the forms that the walks want. What the law of the reference rests on (layer 35). -/
import Derived.Test.YtfjkmhbipkoefaaDoorQ17
import Derived.Test.YtfjkmhbipkoefaaDoorQ25
import Derived.Test.YtfjkmhbipkoefaaDoorQ18
import Derived.OpenShut
import Derived.Test.YtfjkmhbipkoefaaDoorQ19
import Derived.Test.YtfjkmhbipkoefaaDoorQ22
import Derived.Test.YtfjkmhbipkoefaaDoorQ24
import Derived.Test.YtfjkmhbipkoefaaDoorQ16
import Derived.Test.YtfjkmhbipkoefaaDoorQ04
import Derived.Deep.SlicePairs
import Derived.Laws.IdiomArrays
import Derived.Lib.SmallJoins
namespace Go.Proofs.YtfjkmhbipkoefaaDoor
open Go.RowKit
abbrev Tabs (w : World) : Prop := PTabs w
theorem gBef : Tryd.prog.globalNamed "wageoffice/calendar.before" = some 2 := by kernel_rfl
theorem gGen : Tryd.prog.globalNamed "wageoffice/commitment.generators" = some 0 := by kernel_rfl
theorem tab_heap {W : World} {name : String} {g : Nat} {k : IntKind} {zs : List Int} (hg : Tryd.prog.globalNamed name = some g) (h : Lib.TabIs Tryd.prog W name k zs) : ∃ t fr, W.heap[g]? = some (.cells (zs.map fun z => Value.int k z).toArray t fr) := by
  unfold Lib.TabIs World.var? at h
  rw [hg] at h
  simp only [Option.bind_some] at h
  split at h
  · rename_i cs t fr hq
    refine ⟨t, fr, ?_⟩
    rw [hq]
    simpa using h
  · cases h
theorem tabs_of_vars {W : World} {z1 z2 : List Int} (_ : Lib.TabIs Tryd.prog W "math/bits.deBruijn32tab" .u8 z1) (_ : Lib.TabIs Tryd.prog W "math/bits.deBruijn64tab" .u8 z2)
    (h3 : Lib.TabIs Tryd.prog W "internal/strconv.uint64pow10" .u64 Lib.pow10Tab) (h4 : Lib.TabIs Tryd.prog W "wageoffice/calendar.before" .i64 [0, 31, 59, 90, 120, 151, 181, 212, 243, 273, 304, 334, 365]) (h5 : Lib.TabIs Tryd.prog W "wageoffice/commitment.generators" .i64 [4, 9]) : Tabs W := by
  refine ⟨⟨?_, h3⟩, tab_heap gGen h5⟩
  obtain ⟨t, fr, h⟩ := tab_heap gBef h4
  exact ⟨t, fr, by rw [h]; rfl⟩
end Go.Proofs.YtfjkmhbipkoefaaDoor
namespace Go.Proofs.YtfjkmhbipkoefaaDoor
open Go.RowKit Go.Shelf
set_option linter.unusedVariables false
set_option linter.unusedSimpArgs false
set_option maxRecDepth 100000
theorem PTabs.grp {w : World} (h : PTabs w) : GTab w := h.2
theorem sl_ne_lt {W : World} {size n : Nat} {A : Option Addr} {xs : List Value} {X : Nat} {cs : Array Value} {t : TypeId} {fr : Nat × Nat} (h : Sl W W.heap.size size A n xs) (hX : W.heap[X]? = some (.cells cs t fr)) (hlt : cs.size < n * size) : ∀ b off, A = some ⟨b, off, none⟩ → b ≠ X := by
  rintro b off rfl rfl
  obtain ⟨b', off', e, hb, hc⟩ := h.2 (by rcases Nat.eq_zero_or_pos n with rfl | h; · simp at hlt
                                          · exact h)
  injection e with e; injection e with e1 e2
  subst e1; subst e2
  have h1 := hc (n * size - 1) _ (List.getElem?_eq_getElem (by rw [h.1]; omega))
  rw [Lib.cell_of_heap hX] at h1
  have := (Array.getElem?_eq_some_iff.1 h1).1
  omega
theorem sl_ne_0 {W : World} {size n : Nat} {A : Option Addr} {xs : List Value} {X : Nat} {cs : Array Value} {t : TypeId} {fr : Nat × Nat} (h : Sl W W.heap.size size A n xs) (hX : W.heap[X]? = some (.cells cs t fr)) (hn : 0 < n * size) (hlt : cs.size ≤ n * size) (h0 : xs[0]? ≠ cs[0]?) : ∀ b off, A = some ⟨b, off, none⟩ → b ≠ X := by
  rintro b off rfl rfl
  obtain ⟨b', off', e, hb, hc⟩ := h.2 (by rcases Nat.eq_zero_or_pos n with rfl | h; · simp at hn
                                          · exact h)
  injection e with e; injection e with e1 e2
  subst e1; subst e2
  have h1 := hc (n * size - 1) _ (List.getElem?_eq_getElem (by rw [h.1]; omega))
  rw [Lib.cell_of_heap hX] at h1
  have h2 := (Array.getElem?_eq_some_iff.1 h1).1
  have hoff : off = 0 := by omega
  subst hoff
  have hx0 : 0 < xs.length := by rw [h.1]; exact hn
  have h3 := hc 0 _ (List.getElem?_eq_getElem hx0)
  rw [Lib.cell_of_heap hX] at h3
  exact h0 ((List.getElem?_eq_getElem hx0).trans h3.symm)
theorem sl_set5 {W : World} {size n : Nat} {A : Option Addr} {xs : List Value} {X : Nat} (h : Sl W W.heap.size size A n xs) (hb : ∀ b off, A = some ⟨b, off, none⟩ → b ≠ X) (v0 v1 v2 v3 v4 : Value) :
    Sl (((((W.setCell ⟨X, 0, none⟩ v0).setCell ⟨X, 1, none⟩ v1).setCell ⟨X, 2, none⟩ v2).setCell ⟨X, 3, none⟩ v3).setCell ⟨X, 4, none⟩ v4) (((((W.setCell ⟨X, 0, none⟩ v0).setCell ⟨X, 1, none⟩ v1).setCell ⟨X, 2, none⟩ v2).setCell ⟨X, 3, none⟩ v3).setCell ⟨X, 4, none⟩ v4).heap.size size A n xs :=
  sl_keep h (by simp [World.setCell]) fun b _ ⟨off, e⟩ => heap_set5 _ _ _ _ _ _ _ _ (hb b off e)
abbrev sheetO (p : ByteArray) (m : Int) (A : Option Addr) (n ca : Nat) (B : Option Addr) (k cb : Nat) (root : UInt64) : Obj := .cells #[.string p, .int .i64 m, .slice A n ca, .slice B k cb, .int .u64 root.toNat] 43 (0, 0)
/-- A payslip of a result lies in a box. -/
structure BoxIs (w1 : World) (month : Int) (ls : List Quad) (os : List Int) (s : SlipM) (sd : ByteArray) (X : Nat) (A : Option Addr) (ca : Nat) (B : Option Addr) (cb n : Nat) (dp : ByteArray) (dm : Int) (dr : List RowD) (db : List Int) (dt : UInt64) (wx : World) : Prop where
  is : ResIs month ls os s
  d : resS s sd = ⟨dp, dm, dr, db, dt⟩
  n1 : dr.length = n
  n2 : db.length = n
  n5 : 5 ≤ n
  n30 : n ≤ 30
  g : wx.heap[X]? = some (sheetO dp dm A n ca B n cb dt)
  sa : Sl wx wx.heap.size 3 A n (rowsV dr)
  sb : Sl wx wx.heap.size 1 B n (intV db)
  ca_ : n ≤ ca ∧ ca ≤ maxLen
  cb_ : n ≤ cb ∧ cb ≤ maxLen
  x3 : w1.heap.size ≤ X
  bel : Below w1.heap.size w1 wx
theorem BoxIs.go {w1 : World} {month : Int} {ls : List Quad} {os : List Int} {s : SlipM} {sd : ByteArray} {X : Nat} {A : Option Addr} {ca : Nat} {B : Option Addr} {cb n : Nat} {dp : ByteArray} {dm : Int} {dr : List RowD} {db : List Int} {dt : UInt64} {wx W : World} (h : BoxIs w1 month ls os s sd X A ca B cb n dp dm dr db dt wx) (k : Below wx.heap.size wx W) :
    BoxIs w1 month ls os s sd X A ca B cb n dp dm dr db dt W :=
  ⟨h.is, h.d, h.n1, h.n2, h.n5, h.n30, (k.block _ (Array.getElem?_eq_some_iff.1 h.g).1).trans h.g, h.sa.go k, h.sb.go k, h.ca_, h.cb_, h.x3, bgo h.bel k⟩
theorem box_rows {month : Int} {ls : List Quad} {os : List Int} {s : SlipM} {sd : ByteArray} {dp : ByteArray} {dm : Int} {dr : List RowD} {db : List Int} {dt : UInt64} (h : resS s sd = ⟨dp, dm, dr, db, dt⟩) (hs : ResIs month ls os s) :
    dr = resR s ∧ db = blindL s.person s.month sd dr.length ∧ dp = annB ∧ (0 ≤ dm ∧ dm ≤ 1199) ∧ dt = rootV (leafK dr db dr.length) ∧ db.length = dr.length ∧ 5 ≤ dr.length ∧ dr.length ≤ 30 := by
  unfold resS at h
  injection h with h1 h2 h3 h4 h5
  have hl := res_len hs
  have hm := pickF_lt month 1200 (by omega)
  refine ⟨h3.symm, by rw [← h4, ← h3], by rw [← h1]; exact hs.person, by rw [← h2, hs.month]; omega, by rw [← h5, ← h4, ← h3], by rw [← h4, ← h3, blindL_len], by rw [← h3]; exact hl.1, by rw [← h3]; exact hl.2⟩
theorem boxIs_of {w1 W : World} {month : Int} {ls : List Quad} {os : List Int} {s : SlipM} {sd : ByteArray} {X : Nat} {A : Option Addr} {ca : Nat} {B : Option Addr} {cb n m : Nat} {dp : ByteArray} {dm : Int} {dr : List RowD} {db : List Int} {dt : UInt64} (hs : ResIs month ls os s) (hd : resS s sd = ⟨dp, dm, dr, db, dt⟩) (hn : dr.length = n) (hm : db.length = m)
    (gX : W.heap[X]? = some (.cells #[.string ⟨#[]⟩, .int .i64 0, .slice none 0 0, .slice none 0 0, .int .u64 0] 43)) (hA : Sl W W.heap.size 3 A n (rowsV dr)) (hB : Sl W W.heap.size 1 B m (intV db)) (hca : n ≤ ca ∧ ca ≤ maxLen) (hcb : m ≤ cb ∧ cb ≤ maxLen) (hX3 : w1.heap.size ≤ X) (hb : Below w1.heap.size w1 W) :
    n = m ∧ BoxIs w1 month ls os s sd X A ca B cb n dp dm dr db dt (((((W.setCell ⟨X, 0, none⟩ (.string dp)).setCell ⟨X, 1, none⟩ (.int .i64 dm)).setCell ⟨X, 2, none⟩ (.slice A n ca)).setCell ⟨X, 3, none⟩ (.slice B m cb)).setCell ⟨X, 4, none⟩ (.int .u64 dt.toNat)) := by
  obtain ⟨h1, h2, h3, h4, h5, h6, h7, h8⟩ := box_rows hd hs
  have hnm : n = m := by omega
  subst hnm
  refine ⟨rfl, hs, hd, hn, hm, by omega, by omega, ?_, ?_, ?_, hca, hcb, hX3, ?_⟩
  · rw [setCell_heap (setCell_heap (setCell_heap (setCell_heap (setCell_heap gX))))]
    rfl
  · exact sl_set5 hA (sl_ne_lt hA gX (by show 5 < _; omega)) _ _ _ _ _
  · refine sl_set5 hB (sl_ne_0 hB gX (by omega) (by show 5 ≤ _; omega) ?_) _ _ _ _ _
    cases db with
    | nil => simp at hm; omega
    | cons x db => intro h; simp [intV] at h
  · exact ((((hb.setCell hX3 _).setCell hX3 _).setCell hX3 _).setCell hX3 _).setCell hX3 _
theorem sd_ok {sd : ByteArray} (h : sd.size ≤ 64) : sd.size ≤ maxLen := by unfold maxLen; omega
theorem result_at (month : Int) (LA : Option Addr) (lc : Nat) (ls : List Quad) (N : Nat) (OA : Option Addr) (oc : Nat) (os : List Int) (M : Nat) (w : World) (hN : Hid (ls.length = N)) (hM : Hid (os.length = M)) (hm : Hid (I64 month)) (hls : Hid (N ≤ maxLen ∧ ∀ q ∈ ls, QuadOk q)) (hos : Hid (M ≤ maxLen ∧ ∀ x ∈ os, I64 x)) (hL : Sl w w.heap.size 4 LA N (ls.flatMap quadV)) (hO : Sl w w.heap.size 1 OA M (intV os)) :
    Calls Tryd.prog 7 #[.int .i64 month, .slice LA N lc, .slice OA M oc] w (ResP w month ls os) := by
  have e1 := hN.out
  have e2 := hM.out
  subst e1
  subst e2
  exact result_any month LA lc ls OA oc os w hm.out hls.out.2 hos.out.2 hL hO hls.out.1 hos.out.1
end Go.Proofs.YtfjkmhbipkoefaaDoor
namespace Go.Proofs.YtfjkmhbipkoefaaDoor
open Go.RowKit Go.Shelf
set_option linter.unusedVariables false
set_option linter.unusedSimpArgs false
set_option maxRecDepth 100000
theorem res_size {month : Int} {ls : List Quad} {os : List Int} {s : SlipM} {LA AA : Option Addr} {w : World} (h : ResIs month ls os s) (hc : CaseOk w (case0 LA AA)) (hs : SlipOk w s) : ∀ x ∈ resR s, x.l.size ≤ 70368744177000 ∧ x.r.size ≤ 70368744177000 ∧ I64 x.c :=
  fun x hx => rowsL_size hc hs (res_fits h LA AA) x (by rw [rows_case (res_line h) LA AA]; exact hx)
theorem seal_longS (c : CaseM) (s : SlipM) (seed : ByteArray) (h : 64 < seed.size) : sealS c s seed = ⟨⟨#[]⟩, 0, [], [], 0⟩ := by
  unfold sealS
  rw [seal_long c s seed h]
  exact if_neg (by decide)
theorem box_ne_a {w1 : World} {month : Int} {ls : List Quad} {os : List Int} {s : SlipM} {sd : ByteArray} {X : Nat} {A : Option Addr} {ca : Nat} {B : Option Addr} {cb n : Nat} {dp : ByteArray} {dm : Int} {dr : List RowD} {db : List Int} {dt : UInt64} {wx : World} (h : BoxIs w1 month ls os s sd X A ca B cb n dp dm dr db dt wx)
    {X' : Nat} {cs : Array Value} {t : TypeId} {fr : Nat × Nat} (g : wx.heap[X']? = some (.cells cs t fr)) (h5 : cs.size ≤ 5) : ∀ b off, A = some ⟨b, off, none⟩ → b ≠ X' :=
  sl_ne_lt h.sa g (by have := h.n5; omega)
theorem box_ne_b {w1 : World} {month : Int} {ls : List Quad} {os : List Int} {s : SlipM} {sd : ByteArray} {X : Nat} {A : Option Addr} {ca : Nat} {B : Option Addr} {cb n : Nat} {dp : ByteArray} {dm : Int} {dr : List RowD} {db : List Int} {dt : UInt64} {wx : World} (h : BoxIs w1 month ls os s sd X A ca B cb n dp dm dr db dt wx)
    {X' : Nat} {p : ByteArray} {cs : List Value} {t : TypeId} {fr : Nat × Nat} (g : wx.heap[X']? = some (.cells (.string p :: cs).toArray t fr)) (h5 : cs.length ≤ 4) : ∀ b off, B = some ⟨b, off, none⟩ → b ≠ X' := by
  refine sl_ne_0 h.sb g (by have := h.n5; omega) (by have := h.n5; simp; omega) ?_
  have hm := h.n2
  have h5 := h.n5
  cases db with
  | nil => simp at hm; omega
  | cons x db => intro h; simp [intV] at h
theorem valid_box {month : Int} {ls : List Quad} {os : List Int} {s : SlipM} {sd : ByteArray} {dp : ByteArray} {dm : Int} {dr : List RowD} {db : List Int} {dt : UInt64} (h : resS s sd = ⟨dp, dm, dr, db, dt⟩) (hs : ResIs month ls os s) : validB dp dm dr db dt = true := by
  obtain ⟨h1, h2, h3, h4, h5, h6, h7, h8⟩ := box_rows h hs
  have hn : isNameB annB = true := by decide +kernel
  have hok : okK dr db dr.length = true := by
    rw [h2]
    refine okK_blind dr _ _ _ fun x hx => ?_
    have := res_in hs x (by rw [← h1]; exact hx)
    unfold inR
    exact decide_eq_true (by omega)
  unfold validB
  rw [h3, hn, hok, ← h5, decide_eq_true h4, decide_eq_true (show 1 ≤ dr.length ∧ dr.length ≤ 1024 ∧ db.length = dr.length by omega)]
  simp
theorem rroot_at (A : Option Addr) (c n : Nat) (ss : List ByteArray) (r : UInt64) (w : World) (hn : ss.length = n) (hr : Hid (rootV ss = r)) (hA : Sl w w.heap.size 1 A n (strV ss)) (hs : ∀ s ∈ ss, s.size ≤ 140737488355328) (h1 : 1 ≤ n) (hl : n ≤ 1024) :
    Calls Tryd.prog 32 #[.slice A n c] w fun e w' => e = .returned (.tuple #[.int .u64 r.toNat, .int .i64 0]) ∧ Below w.heap.size w w' := by
  subst hn
  have := rroot_any A c ss w hA hs (by unfold maxLen; omega)
  rw [hr.out, checkE_in ⟨h1, hl⟩] at this
  exact this
theorem PTabs.calT {w : World} (h : PTabs w) : CaT.Tabs w := h.1
/-- Three payslips of one result: what they have in common. -/
theorem box_same {s : SlipM} {a b : ByteArray} {dp dp' : ByteArray} {dm dm' : Int} {dr dr' : List RowD} {db db' : List Int} {dt dt' : UInt64} (h : resS s a = ⟨dp, dm, dr, db, dt⟩) (h' : resS s b = ⟨dp', dm', dr', db', dt'⟩) : dp' = dp ∧ dm' = dm ∧ dr' = dr ∧ (a = b → db' = db ∧ dt' = dt) := by
  have h2 := h
  have h2' := h'
  unfold resS at h h'
  injection h with h1 h2 h3 h4 h5
  injection h' with h1' h2' h3' h4' h5'
  refine ⟨h1'.symm.trans h1, h2'.symm.trans h2, h3'.symm.trans h3, fun e => ?_⟩
  subst e
  exact ⟨h4'.symm.trans h4, h5'.symm.trans h5⟩
end Go.Proofs.YtfjkmhbipkoefaaDoor
namespace Go.Proofs.YtfjkmhbipkoefaaDoor
open Go.RowKit Go.Shelf
set_option linter.unusedVariables false
set_option linter.unusedSimpArgs false
set_option maxRecDepth 100000
structure LineRaw (W : World) (x : LineM) : Prop where
  sf : Sl W W.heap.size 1 x.FA x.facts.length (intV x.facts)
  sr : Sl W W.heap.size 1 x.RA x.rests.length (intV x.rests)
  lf : x.facts.length ≤ maxLen
  lr : x.rests.length ≤ maxLen
  bf : ∀ y ∈ x.facts, I64 y
  br : ∀ y ∈ x.rests, I64 y
  ba : I64 x.amt
theorem LineRaw.go {W W' : World} {x : LineM} (h : LineRaw W x) (k : Below W.heap.size W W') : LineRaw W' x := ⟨h.sf.go k, h.sr.go k, h.lf, h.lr, h.bf, h.br, h.ba⟩
/-- A result that came in. -/
structure SlipRaw (W : World) (s : SlipM) : Prop where
  sl : Sl W W.heap.size 6 s.LA s.lines.length (s.lines.flatMap lineV)
  st : Sl W W.heap.size 2 s.TA s.taken.length (s.taken.flatMap takenV)
  ln : ∀ x ∈ s.lines, LineRaw W x
  pz : s.person.size ≤ maxLen
  mo : I64 s.month
  ll : s.lines.length ≤ maxLen
  lt : s.taken.length ≤ maxLen
  ti : ∀ x ∈ s.taken, I64 x.1 ∧ I64 x.2
  g0 : I64 s.gross
  g1 : I64 s.tax
  g2 : I64 s.deduct
  g3 : I64 s.floor
  g4 : I64 s.net
theorem SlipRaw.go {W W' : World} {s : SlipM} (h : SlipRaw W s) (k : Below W.heap.size W W') : SlipRaw W' s := ⟨h.sl.go k, h.st.go k, fun x hx => (h.ln x hx).go k, h.pz, h.mo, h.ll, h.lt, h.ti, h.g0, h.g1, h.g2, h.g3, h.g4⟩
def lineFew (x : LineM) : Bool := decide (x.facts.length ≤ 50 ∧ x.rests.length ≤ 50)
def fewB (s : SlipM) : Bool := s.lines.all lineFew && decide (s.lines.length ≤ 1100 ∧ s.taken.length ≤ 50 ∧ s.person.size ≤ 100)
theorem SlipRaw.ok {W : World} {s : SlipM} (h : SlipRaw W s) (hf : fewB s = true) : SlipOk W s := by
  unfold fewB at hf
  rw [Bool.and_eq_true, decide_eq_true_eq] at hf
  obtain ⟨ha, h1, h2, h3⟩ := hf
  refine ⟨h.sl, h.st, fun x hx => ?_, by omega, h.mo, by omega, by omega, h.ti, h.g0, h.g1, h.g2, h.g3, h.g4⟩
  have hx2 := of_decide_eq_true (List.all_eq_true.1 ha x hx)
  have hl := h.ln x hx
  exact ⟨hl.sf, hl.sr, by omega, by omega, hl.bf, hl.br, hl.ba⟩
set_option maxHeartbeats 4000000 in
theorem few_any (s : SlipM) (r : Bool) (hr : Hid (fewB s = r)) (w : World) (hs : SlipRaw w s) :
    Calls Tryd.prog 5 #[slipV s] w fun e w' => e = .returned (.bool r) ∧ Below w.heap.size w w' := by
  have hll := hs.ll
  have htl := hs.lt
  have hpz := hs.pz
  unfold maxLen at hll htl hpz
  obtain ⟨person, month, LA, lc, lines, gross, tax, deduct, floor, TA, tc, taken, net⟩ := s
  dsimp only [slipV] at hll htl hpz hr ⊢
  obtain ⟨ln, hln⟩ : ∃ n, lines.length = n := ⟨_, rfl⟩
  obtain ⟨tn, htn⟩ : ∃ n, taken.length = n := ⟨_, rfl⟩
  rw [hln] at hll ⊢
  rw [htn] at htl ⊢
  have Hr : Hid ((lines.all lineFew && decide (ln ≤ 1100 ∧ tn ≤ 50 ∧ person.size ≤ 100)) = r) := Lib.hid (by rw [← hln, ← htn]; exact hr.out)
  have Hln := Lib.hid hln
  have HLS := Lib.hid (show Sl w w.heap.size 6 LA ln (lines.flatMap lineV) by rw [← hln]; exact hs.sl)
  have HLN := Lib.hid hs.ln
  dsimp only at HLN
  clear hr hln htn hs
  go_enter Tryd.func5, Tryd.ntmps5
  go_upto_region 1 with fail
  obtain ⟨W, hW⟩ : ∃ W, W = w.alloc (.cells #[.string person, .int .i64 month, .slice LA ln lc, .int .i64 gross, .int .i64 tax, .int .i64 deduct, .int .i64 floor, .slice TA tn tc, .int .i64 net] 37) := ⟨_, rfl⟩
  rw [← hW]
  have g : W.heap[w.heap.size]? = some (.cells #[.string person, .int .i64 month, .slice LA ln lc, .int .i64 gross, .int .i64 tax, .int .i64 deduct, .int .i64 floor, .slice TA tn tc, .int .i64 net] 37 (0, 0)) := by rw [hW]; exact World.alloc_heap_new _ _
  have hB : Below w.heap.size w W := by rw [hW]; exact bal (Below.refl _ _) _
  have e0 : W.cell? ⟨w.heap.size, 0, none⟩ = some (.string person) := by rw [Lib.cell_of_heap g]; rfl
  have e2 : W.cell? ⟨w.heap.size, 2, none⟩ = some (.slice LA ln lc) := by rw [Lib.cell_of_heap g]; rfl
  have e7 : W.cell? ⟨w.heap.size, 7, none⟩ = some (.slice TA tn tc) := by rw [Lib.cell_of_heap g]; rfl
  clear hW g
  go_wp2_with fail
  go_loop [3] (fun i => ∃ k : Nat, k ≤ ln ∧ i = .int .i64 (k : Int) ∧ ∀ j (h : j < lines.length), j < k → lineFew lines[j] = true) (fun i => ln - (intOf i).toNat)
  case atStart => exact ⟨0, Nat.zero_le _, rfl, fun j h hj => absurd hj (Nat.not_lt_zero j)⟩
  case round =>
    obtain ⟨k, hk, rfl, hall⟩ := hrel
    have HA := Lib.hid hall
    clear hall
    by_cases hlt : k < ln
    · have hlt' : (k : Int) < (ln : Int) := by omega
      have hkl : k < lines.length := by rw [Hln.out]; exact hlt
      obtain ⟨b, off, rfl, hb, hcell⟩ := HLS.out.2 (by omega)
      obtain ⟨x, hx⟩ : ∃ x, lines[k] = x := ⟨_, rfl⟩
      have hget := flat_get lineV 6 (fun _ => rfl) lines k hkl
      rw [hx] at hget
      have hLx : LineRaw w x := by rw [← hx]; exact HLN.out _ (List.getElem_mem hkl)
      have Hnext : Hid (lineFew x = true → ∀ j (h : j < lines.length), j < k + 1 → lineFew lines[j] = true) := Lib.hid (fun hf j h hj => by
        by_cases e : j < k
        · exact HA.out j h e
        · obtain rfl : j = k := by omega
          rw [hx]; exact hf)
      have Hstop : Hid (lineFew x = false → r = false) := Lib.hid (fun hf => by
        rw [← Hr.out, List.all_eq_false.2 ⟨x, by rw [← hx]; exact List.getElem_mem hkl, by rw [hf]; simp⟩]
        rfl)
      obtain ⟨day, line, art, amt, FA, fc, facts, RA, rc, rests⟩ := x
      have lf := hLx.lf
      have lr := hLx.lr
      unfold maxLen at lf lr
      dsimp only at lf lr
      obtain ⟨fn, hfn⟩ : ∃ n, facts.length = n := ⟨_, rfl⟩
      obtain ⟨rn, hrn⟩ : ∃ n, rests.length = n := ⟨_, rfl⟩
      rw [hfn] at lf
      rw [hrn] at lr
      have cc : ∀ j v, (lineV ⟨day, line, art, amt, FA, fc, facts, RA, rc, rests⟩)[j]? = some v → j < 6 → W.cell? ⟨b, off + (k * 6 + j), none⟩ = some v := fun j v hv hj => (hB.cell (p := ⟨b, off + (k * 6 + j), none⟩) hb).trans (hcell _ _ ((hget j hj).trans hv))
      have y4 : W.cell? ⟨b, off + k * 6 + 4, none⟩ = some (.slice FA fn fc) := by rw [← hfn]; exact cc 4 _ rfl (by decide)
      have y5 : W.cell? ⟨b, off + k * 6 + 5, none⟩ = some (.slice RA rn rc) := by rw [← hrn]; exact cc 5 _ rfl (by decide)
      have Hlf : Hid (lineFew ⟨day, line, art, amt, FA, fc, facts, RA, rc, rests⟩ = decide (fn ≤ 50 ∧ rn ≤ 50)) := Lib.hid (by unfold lineFew; dsimp only; rw [hfn, hrn])
      clear hx hget hLx cc hcell hfn hrn hkl HA
      by_cases q1 : fn ≤ 50
      · have q1' : ¬ (50 : Int) < (fn : Int) := by omega
        by_cases q2 : rn ≤ 50
        · have q2' : ¬ (50 : Int) < (rn : Int) := by omega
          have Hn := Lib.hid (Hnext.out (by rw [Hlf.out]; exact decide_eq_true ⟨q1, q2⟩))
          go_wp2_with fail
          go_round
          case rel => exact ⟨k + 1, by omega, by go_num, Hn.out⟩
          case measure => simp [intOf]; omega
        · have q2' : (50 : Int) < (rn : Int) := by omega
          have Hrf := Lib.hid (Hstop.out (by rw [Hlf.out]; exact decide_eq_false (fun h => q2 h.2)))
          go_wp2_with fail
          go_ret
          exact ⟨by rw [Hrf.out] <;> rfl, hB⟩
      · have q1' : (50 : Int) < (fn : Int) := by omega
        have Hrf := Lib.hid (Hstop.out (by rw [Hlf.out]; exact decide_eq_false (fun h => q1 h.1)))
        go_wp2_with fail
        go_ret
        exact ⟨by rw [Hrf.out] <;> rfl, hB⟩
    · obtain rfl : k = ln := by omega
      have Hrt : Hid (r = decide (k ≤ 1100 ∧ tn ≤ 50 ∧ person.size ≤ 100)) := Lib.hid (by
        rw [← Hr.out, List.all_eq_true.2 (fun x hx => ?_), Bool.true_and]
        obtain ⟨j, hj, rfl⟩ := List.getElem_of_mem hx
        exact HA.out j hj (by rw [← Hln.out]; exact hj))
      clear HA Hr
      by_cases q1 : k ≤ 1100
      · have q1' : (k : Int) ≤ 1100 := by omega
        by_cases q2 : tn ≤ 50
        · have q2' : (tn : Int) ≤ 50 := by omega
          by_cases q3 : person.size ≤ 100
          · have q3' : (person.size : Int) ≤ 100 := by omega
            have Hf : Hid (r = true) := Lib.hid (by rw [Hrt.out]; exact decide_eq_true ⟨q1, q2, q3⟩)
            go_wp2_with fail
            go_ret
            exact ⟨by rw [Hf.out] <;> rfl, hB⟩
          · have q3' : ¬ (person.size : Int) ≤ 100 := by omega
            have Hf : Hid (r = false) := Lib.hid (by rw [Hrt.out]; exact decide_eq_false (fun h => q3 h.2.2))
            go_wp2_with fail
            go_ret
            exact ⟨by rw [Hf.out] <;> rfl, hB⟩
        · have q2' : ¬ (tn : Int) ≤ 50 := by omega
          have Hf : Hid (r = false) := Lib.hid (by rw [Hrt.out]; exact decide_eq_false (fun h => q2 h.2.1))
          go_wp2_with fail
          go_ret
          exact ⟨by rw [Hf.out] <;> rfl, hB⟩
      · have q1' : ¬ (k : Int) ≤ 1100 := by omega
        have Hf : Hid (r = false) := Lib.hid (by rw [Hrt.out]; exact decide_eq_false (fun h => q1 h.1))
        go_wp2_with fail
        go_ret
        exact ⟨by rw [Hf.out] <;> rfl, hB⟩
/-- What Seal makes is bounded. -/
theorem seal_ok {c : CaseM} {s : SlipM} {seed : ByteArray} {w : World} (hc : CaseOk w c) (hs : SlipOk w s) : (sealS c s seed).person.size ≤ 100 ∧ (sealS c s seed).rows.length ≤ 1024 ∧ (sealS c s seed).bl.length ≤ 1024 ∧ (∀ x ∈ (sealS c s seed).rows, x.l.size ≤ 70368744177000 ∧ x.r.size ≤ 70368744177000 ∧ I64 x.c) ∧ ∀ b ∈ (sealS c s seed).bl, I64 b := by
  by_cases h : sealE c s seed = 0
  · have e : sealS c s seed = ⟨s.person, s.month, rowsR c s, blindL s.person s.month seed (rowsR c s).length, rootV (leafK (rowsR c s) (blindL s.person s.month seed (rowsR c s).length) (rowsR c s).length)⟩ := by unfold sealS; rw [if_pos h]
    have hq : fitsB c s = true ∧ (rowsL c s).length ≤ 1024 := by
      unfold sealE at h
      split at h
      · cases h
      · split at h
        · rename_i h2
          exact absurd h h2
        · rename_i h2
          have h3 : rowsE (fitsB c s) (rowsL c s).length = 0 := Decidable.not_not.1 h2
          unfold rowsE at h3
          split at h3
          · rename_i hf
            split at h3
            · rename_i hl; exact ⟨hf, hl⟩
            · cases h3
          · cases h3
    have e2 : rowsR c s = rowsL c s := by unfold rowsR; rw [if_pos hq]
    rw [e, e2]
    dsimp only
    refine ⟨Nat.le_trans (fits_out hq.1).1 (by decide), hq.2, by rw [blindL_len]; exact hq.2, rowsL_size hc hs hq.1, fun b hb => ?_⟩
    have := blindL_bd b hb
    exact ⟨by omega, by omega⟩
  · have e : sealS c s seed = ⟨⟨#[]⟩, 0, [], [], 0⟩ := by unfold sealS; rw [if_neg h]
    rw [e]
    exact ⟨by decide, by decide, by decide, (fun x hx => by cases hx), fun b hb => by cases hb⟩
theorem rowsR_len (c : CaseM) (s : SlipM) : (rowsR c s).length ≤ 1024 := by
  unfold rowsR
  split
  · rename_i h; exact h.2
  · exact Nat.zero_le _
end Go.Proofs.YtfjkmhbipkoefaaDoor
namespace Go.Proofs.YtfjkmhbipkoefaaDoor
open Go.RowKit Go.ChangeShapes Go.WideShapes Go.Deep Go.Shelf
set_option linter.unusedVariables false
set_option linter.unusedSimpArgs false
set_option maxRecDepth 100000
theorem cells_int35 : Tryd.prog.cellsOf 3 = 1 := by kernel_rfl
theorem tr_ints {H : Type} {enc : TypeId × Value → H} {W : World} {n : Nat} {v : Value} {y : DataW H × List MemPlace} (h : DataW.trod enc Tryd.prog W 0 (fun _ => true) true n 39 [v] = some y) :
    ∃ (A : Option Addr) (c : Nat) (l : List Int), v = .slice A l.length c ∧ Sl W W.heap.size 1 A l.length (intV l) ∧ (l.length ≤ c ∧ c ≤ maxLen) ∧ ∀ x ∈ l, I64 x := by
  rcases open_ints Tryd.underlying39 Tryd.underlying3 cells_int35 h with ⟨hcs, hx⟩ | ⟨a, len, cap, zs, hcs, _, hl, hm, hz, hx, hcell, hws⟩
  · obtain rfl : v = .slice none 0 0 := by simpa using hcs
    exact ⟨none, 0, [], rfl, Sl.nil _ 1, ⟨Nat.le_refl _, Nat.zero_le _⟩, fun s h => by cases h⟩
  · obtain rfl : v = .slice (some a) len cap := by simpa using hcs
    simp only [if_true] at hz
    have hlen : (zs.take len).length = len := by rw [List.length_take]; omega
    refine ⟨some a, cap, zs.take len, by rw [hlen], ?_, ⟨by omega, by omega⟩, fun s h => bounds_i64 (hws s (List.mem_of_mem_take h))⟩
    refine sl_of_row (by simp [intV]) (fun _ => Nat.one_pos) ?_
    intro j u hu
    obtain ⟨hj, e⟩ := List.getElem?_eq_some_iff.1 hu
    have hj' : j < len := by simp [intV] at hj; omega
    rw [hcell j (by omega), ← e]
    simp [intV, List.getD, show j < zs.length by omega]
theorem sl_ints {H : Type} {enc : TypeId × Value → H} {W : World} {base : Nat} {v : Value} {d : DataW H} {p : List MemPlace} (hv : Value.okWide Tryd.prog W .any base 39 v) (h : DataW.Trod enc Tryd.prog W 0 (fun _ => true) true 39 v d p) :
    ∃ (A : Option Addr) (c : Nat) (l : List Int), v = .slice A l.length c ∧ Sl W W.heap.size 1 A l.length (intV l) ∧ (l.length ≤ c ∧ c ≤ maxLen) ∧ ∀ x ∈ l, I64 x := by
  obtain ⟨a0, len, cap, rfl⟩ := okWide_slice Tryd.underlying39 hv
  obtain ⟨fuel, hf⟩ := h
  exact tr_ints hf
instance : Inhabited Quad := ⟨⟨0, 0, 0, 0⟩⟩
theorem quads_len (l : List Quad) : (l.flatMap quadV).length = l.length * 4 := by
  induction l with
  | nil => rfl
  | cons x l ih => rw [List.flatMap_cons, List.length_append, ih, List.length_cons, show (quadV x).length = 4 from rfl]; omega
theorem tr_quads {H : Type} {enc : TypeId × Value → H} {W : World} {n : Nat} {v : Value} {y : DataW H × List MemPlace} (h : DataW.trod enc Tryd.prog W 0 (fun _ => true) true n 44 [v] = some y) :
    ∃ (A : Option Addr) (c : Nat) (l : List Quad), v = .slice A l.length c ∧ Sl W W.heap.size 4 A l.length (l.flatMap quadV) ∧ (l.length ≤ c ∧ c ≤ maxLen) ∧ ∀ x ∈ l, QuadOk x := by
  rcases open_slice Tryd.underlying44 h with ⟨hcs, _⟩ | ⟨a, len, cap, m, n', D, Pl, hcs, hb, hl, hm, hmm, hx, hi⟩
  · obtain rfl : v = .slice none 0 0 := by simpa using hcs
    exact ⟨none, 0, [], rfl, Sl.nil _ 4, ⟨Nat.le_refl _, Nat.zero_le _⟩, fun x hx => by cases hx⟩
  · obtain rfl : v = .slice (some a) len cap := by simpa using hcs
    simp only [if_true] at hmm
    subst hmm
    have hC : Tryd.prog.cellsOf 76 = 4 := by kernel_rfl
    have each : ∀ i, i < m → ∃ x : Quad, W.cell? (a.add (i * 4 + 0)) = some (.int .i64 x.a) ∧ W.cell? (a.add (i * 4 + 1)) = some (.int .i64 x.b) ∧ W.cell? (a.add (i * 4 + 2)) = some (.int .i64 x.c) ∧ W.cell? (a.add (i * 4 + 3)) = some (.int .i64 x.d) ∧ QuadOk x := by
      intro i hi'
      obtain ⟨cs', hc, ht'⟩ := hi i hi'
      rw [hC] at hc
      obtain ⟨_, hcl, hat⟩ := World.cells?_some hc
      match cs', hcl with
      | [c0, c1, c2, c3], _ =>
        obtain ⟨y0, y1, y2, y3, n2, _, hy0, hy1, hy2, hy3⟩ := trod_array4 Tryd.underlying76 cells_int35 ht'
        obtain ⟨z0, e0, _, w0⟩ := DataW.trod_int Tryd.underlying3 hy0
        obtain ⟨z1, e1, _, w1⟩ := DataW.trod_int Tryd.underlying3 hy1
        obtain ⟨z2, e2, _, w2⟩ := DataW.trod_int Tryd.underlying3 hy2
        obtain ⟨z3, e3, _, w3⟩ := DataW.trod_int Tryd.underlying3 hy3
        obtain rfl : c0 = .int .i64 z0 := by simpa using e0
        obtain rfl : c1 = .int .i64 z1 := by simpa using e1
        obtain rfl : c2 = .int .i64 z2 := by simpa using e2
        obtain rfl : c3 = .int .i64 z3 := by simpa using e3
        refine ⟨⟨z0, z1, z2, z3⟩, ?_, ?_, ?_, ?_, bounds_i64 w0, bounds_i64 w1, bounds_i64 w2, bounds_i64 w3⟩
        · rw [← Go.Deep.add_add, hat 0 (by decide)]; rfl
        · rw [← Go.Deep.add_add, hat 1 (by decide)]; rfl
        · rw [← Go.Deep.add_add, hat 2 (by decide)]; rfl
        · rw [← Go.Deep.add_add, hat 3 (by decide)]; rfl
    obtain ⟨X, hX⟩ := choose_lt each
    have ht : ((List.range len).map X).length = len := by simp
    refine ⟨some a, m, (List.range len).map X, by rw [ht], ?_, ⟨by omega, by omega⟩, ?_⟩
    · refine sl_of_row (by rw [quads_len]) (fun _ => by omega) ?_
      intro j u hu
      obtain ⟨hj, e⟩ := List.getElem?_eq_some_iff.1 hu
      rw [quads_len, ht] at hj
      have hq : j / 4 < len := by omega
      obtain ⟨c0, c1, c2, c3, _⟩ := hX (j / 4) (by omega)
      have hql : j / 4 < ((List.range len).map X).length := by rw [ht]; exact hq
      have hget := flat_get quadV 4 (fun _ => rfl) ((List.range len).map X) (j / 4) hql
      have g0 : (((List.range len).map X).flatMap quadV)[j / 4 * 4 + 0]? = _ := hget 0 (by decide)
      have g1 : (((List.range len).map X).flatMap quadV)[j / 4 * 4 + 1]? = _ := hget 1 (by decide)
      have g2 : (((List.range len).map X).flatMap quadV)[j / 4 * 4 + 2]? = _ := hget 2 (by decide)
      have g3 : (((List.range len).map X).flatMap quadV)[j / 4 * 4 + 3]? = _ := hget 3 (by decide)
      have hj3 : j = j / 4 * 4 + 0 ∨ j = j / 4 * 4 + 1 ∨ j = j / 4 * 4 + 2 ∨ j = j / 4 * 4 + 3 := by omega
      rcases hj3 with hjj | hjj | hjj | hjj
      · rw [Nat.add_zero] at hjj
        rw [Nat.add_zero, ← hjj, hu] at g0
        rw [Nat.add_zero, ← hjj] at c0
        rw [c0, Option.some.inj g0]
        simp
      · rw [← hjj, hu] at g1
        rw [← hjj] at c1
        rw [c1, Option.some.inj g1]
        simp
      · rw [← hjj, hu] at g2
        rw [← hjj] at c2
        rw [c2, Option.some.inj g2]
        simp
      · rw [← hjj, hu] at g3
        rw [← hjj] at c3
        rw [c3, Option.some.inj g3]
        simp
    · intro x hx
      obtain ⟨i, hi, rfl⟩ := List.mem_map.1 hx
      exact (hX i (by have := List.mem_range.1 hi; omega)).2.2.2.2
theorem sl_quads {H : Type} {enc : TypeId × Value → H} {W : World} {base : Nat} {v : Value} {d : DataW H} {p : List MemPlace} (hv : Value.okWide Tryd.prog W .any base 44 v) (h : DataW.Trod enc Tryd.prog W 0 (fun _ => true) true 44 v d p) :
    ∃ (A : Option Addr) (c : Nat) (l : List Quad), v = .slice A l.length c ∧ Sl W W.heap.size 4 A l.length (l.flatMap quadV) ∧ (l.length ≤ c ∧ c ≤ maxLen) ∧ ∀ x ∈ l, QuadOk x := by
  obtain ⟨a0, len, cap, rfl⟩ := okWide_slice Tryd.underlying44 hv
  obtain ⟨fuel, hf⟩ := h
  exact tr_quads hf
end Go.Proofs.YtfjkmhbipkoefaaDoor
namespace Go.Proofs.YtfjkmhbipkoefaaDoor
end Go.Proofs.YtfjkmhbipkoefaaDoor
