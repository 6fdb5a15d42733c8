/- What Show keeps while it runs: the disclosure's block, its rows; and what it returns. -/
import Derived.Test.YtfjkmhbipkoefaaGreatDoorQ14
import Derived.Test.YtfjkmhbipkoefaaGreatDoorQ16
namespace Go.Proofs.YtfjkmhbipkoefaaGreatDoor
open Go.RowKit Go.Shelf
set_option linter.unusedVariables false
set_option linter.unusedSimpArgs false
set_option maxRecDepth 100000
/-- A shown row, with the place of its path. -/
structure ShM where
  idx : Int
  row : RowD
  bl : Int
  PA : Option Addr
  pc : Nat
  p : Forks
def shmV (x : ShM) : List Value := [.int .i64 x.idx, .string x.row.l, .int .i64 x.row.c, .string x.row.r, .int .i64 x.bl, .slice x.PA x.p.length x.pc]
def shmsV (l : List ShM) : List Value := l.flatMap shmV
theorem shmsV_snoc (l : List ShM) (x : ShM) : shmsV (l ++ [x]) = shmsV l ++ shmV x := by simp [shmsV]
/-- What a shown row says. -/
structure ShK where
  idx : Int
  row : RowD
  bl : Int
  p : Forks
def ShM.key (x : ShM) : ShK := ⟨x.idx, x.row, x.bl, x.p⟩
def shkAt (rows : List RowD) (bl : List Int) (n : Nat) (i : Int) : ShK := ⟨i, rows.getD i.toNat default, bl.getD i.toNat 0, pathL (leafK rows bl n) i⟩
/-- The commitments to the rows. -/
def comL (rows : List RowD) (bl : List Int) (k : Nat) : List Int := (List.range k).map fun j => comI ((rows.getD j default).c % 1073741789) (bl.getD j 0)
theorem comL_snoc (rows : List RowD) (bl : List Int) (k : Nat) : comL rows bl (k + 1) = comL rows bl k ++ [comI ((rows.getD k default).c % 1073741789) (bl.getD k 0)] := by simp [comL, List.range_succ]
theorem comL_len (rows : List RowD) (bl : List Int) (k : Nat) : (comL rows bl k).length = k := by simp [comL]
theorem comL_bd (rows : List RowD) (bl : List Int) (k : Nat) : ∀ x ∈ comL rows bl k, 0 ≤ x ∧ x < 2147483579 := by
  intro x hx
  obtain ⟨j, _, rfl⟩ := List.mem_map.1 hx
  exact comI_bd _ _
theorem intV_snoc' (l : List Int) (x : Int) : intV (l ++ [x]) = intV l ++ [.int .i64 x] := by simp [intV]
/-- The fields of a disclosure. -/
structure DF where
  person : ByteArray
  month : Int
  root : UInt64
  C : Option Addr
  nc : Nat
  cc : Nat
  S : Option Addr
  ns : Nat
  cs : Nat
  hid : Int
  bld : Int
  si : Int
  SA : Option Addr
  na : Nat
  ca : Nat
  SB : Option Addr
  nb : Nat
  cb : Nat
def DF.cells (f : DF) : Array Value := #[.string f.person, .int .i64 f.month, .int .u64 f.root.toNat, .slice f.C f.nc f.cc, .slice f.S f.ns f.cs, .int .i64 f.hid, .int .i64 f.bld, .int .i64 f.si, .slice f.SA f.na f.ca, .slice f.SB f.nb f.cb]
def DF.val (f : DF) : Value := .agg f.cells
/-- The empty disclosure. -/
def DF.none : DF := ⟨⟨#[]⟩, 0, 0, .none, 0, 0, .none, 0, 0, 0, 0, 0, .none, 0, 0, .none, 0, 0⟩
/-- A disclosure with k commitments. -/
def dfA (person : ByteArray) (month : Int) (root : UInt64) (C : Option Addr) (k cc : Nat) : DF := ⟨person, month, root, C, k, cc, .none, 0, 0, 0, 0, 0, .none, 0, 0, .none, 0, 0⟩
/-- The rows of the call's own that a disclosure holds. -/
structure DRows (W : World) (base : Nat) (f : DF) (com : List Int) (ms : List ShM) (ch : List UInt64) (p : Forks) : Prop where
  c : W.ownsRow base 3 1 (.slice f.C f.nc f.cc) f.nc (intV com)
  s : W.ownsRow base 48 6 (.slice f.S f.ns f.cs) f.ns (shmsV ms)
  sp : ∀ x ∈ ms, W.ownsRow base 93 2 (.slice x.PA x.p.length x.pc) x.p.length (forkV x.p)
  sa : W.ownsRow base 25 1 (.slice f.SA f.na f.ca) f.na (u64V ch)
  sb : W.ownsRow base 93 2 (.slice f.SB f.nb f.cb) f.nb (forkV p)
theorem DRows.keep {W W' : World} {base : Nat} {f : DF} {com : List Int} {ms : List ShM} {ch : List UInt64} {p : Forks} (h : DRows W base f com ms ch p)
    (hk : ∀ (e : TypeId) (size n : Nat) (v : Value) (xs : List Value), (e = 3 ∨ e = 48 ∨ e = 93 ∨ e = 25) → W.ownsRow base e size v n xs → W'.ownsRow base e size v n xs) : DRows W' base f com ms ch p :=
  ⟨hk _ _ _ _ _ (by simp) h.c, hk _ _ _ _ _ (by simp) h.s, fun x hx => hk _ _ _ _ _ (by simp) (h.sp x hx), hk _ _ _ _ _ (by simp) h.sa, hk _ _ _ _ _ (by simp) h.sb⟩
theorem DRows.go {W W' : World} {base : Nat} {f : DF} {com : List Int} {ms : List ShM} {ch : List UInt64} {p : Forks} (h : DRows W base f com ms ch p) (hb : Below W.heap.size W W') : DRows W' base f com ms ch p := h.keep fun _ _ _ _ _ _ h => own_below h hb
/-- A store into a block of another type. -/
theorem DRows.set {W : World} {base : Nat} {f : DF} {com : List Int} {ms : List ShM} {ch : List UInt64} {p : Forks} (h : DRows W base f com ms ch p) {b j : Nat} {cs : Array Value} {T : TypeId} {fr : Nat × Nat} {u : Value} (hb : W.heap[b]? = some (.cells cs T fr))
    (hT : T = 36) : DRows (W.setCell ⟨b, j, none⟩ u) base f com ms ch p := by
  subst hT
  exact h.keep fun e _ _ _ _ he h => own_set h hb (by rcases he with rfl | rfl | rfl | rfl <;> decide)
/-- What Show keeps: the boxed sheet, the result's block, the disclosure's block D, its rows, the leaves. -/
structure ShJ (w : World) (D : Nat) (sheet : Array Value) (f : DF) (com : List Int) (ms : List ShM) (ch : List UInt64) (p : Forks) (v : Value) (kl : Nat) (lv : List ByteArray) (W : World) : Prop where
  hD : w.heap.size + 1 < D
  sh : W.heap[w.heap.size]? = some (.cells sheet 27 (0, 0))
  rs : W.heap[w.heap.size + 1]? = some (.cells DF.none.cells 36 (0, 0))
  dd : W.heap[D]? = some (.cells f.cells 36 (0, 0))
  rw : DRows W w.heap.size f com ms ch p
  lv : W.ownsRow w.heap.size 9 1 v kl (strV lv)
  be : Below w.heap.size w W
theorem ShJ.go {w : World} {D : Nat} {sheet : Array Value} {f : DF} {com : List Int} {ms : List ShM} {ch : List UInt64} {p : Forks} {v : Value} {kl : Nat} {lv : List ByteArray} {W W' : World}
    (h : ShJ w D sheet f com ms ch p v kl lv W) (hb : Below W.heap.size W W') : ShJ w D sheet f com ms ch p v kl lv W' :=
  ⟨h.hD, (hb.block _ (Array.getElem?_eq_some_iff.1 h.sh).1).trans h.sh, (hb.block _ (Array.getElem?_eq_some_iff.1 h.rs).1).trans h.rs, (hb.block _ (Array.getElem?_eq_some_iff.1 h.dd).1).trans h.dd, h.rw.go hb, own_below h.lv hb, bgo h.be hb⟩
theorem ShJ.al {w : World} {D : Nat} {sheet : Array Value} {f : DF} {com : List Int} {ms : List ShM} {ch : List UInt64} {p : Forks} {v : Value} {kl : Nat} {lv : List ByteArray} {W : World}
    (h : ShJ w D sheet f com ms ch p v kl lv W) (o : Obj) : ShJ w D sheet f com ms ch p v kl lv (W.alloc o) := h.go (bal (Below.refl _ _) o)
theorem ShJ.start {w w1 : World} {sheet : Array Value} {person : ByteArray} {month : Int} {root : UInt64} (hs : w.heap.size + 1 < w1.heap.size) (h1 : w1.heap[w.heap.size]? = some (.cells sheet 27 (0, 0)))
    (h2 : w1.heap[w.heap.size + 1]? = some (.cells DF.none.cells 36 (0, 0))) (hB : Below w.heap.size w w1) :
    ShJ w w1.heap.size sheet (dfA person month root none 0 0) [] [] [] [] (.slice none 0 0) 0 [] (w1.alloc (.cells (dfA person month root none 0 0).cells 36)) :=
  ⟨hs, (Below.heap_alloc _ _ _ (by omega)).trans h1, (Below.heap_alloc _ _ _ (by omega)).trans h2, World.alloc_heap_new _ _, ⟨⟨rfl, .inl ⟨rfl, rfl⟩⟩, ⟨rfl, .inl ⟨rfl, rfl⟩⟩, (fun x hx => by cases hx), ⟨rfl, .inl ⟨rfl, rfl⟩⟩, ⟨rfl, .inl ⟨rfl, rfl⟩⟩⟩, ⟨rfl, .inl ⟨rfl, rfl⟩⟩, bal hB _⟩
/-- A store of one field of the disclosure whose rows stay. -/
theorem ShJ.num {w : World} {D : Nat} {sheet : Array Value} {f f' : DF} {com : List Int} {ms : List ShM} {ch : List UInt64} {p : Forks} {v : Value} {kl : Nat} {lv : List ByteArray} {W : World}
    (h : ShJ w D sheet f com ms ch p v kl lv W) (j : Nat) (u : Value) (hc : f.cells.setIfInBounds j u = f'.cells) (hr : ∀ W', DRows W' w.heap.size f com ms ch p → DRows W' w.heap.size f' com ms ch p) :
    ShJ w D sheet f' com ms ch p v kl lv (W.setCell ⟨D, j, none⟩ u) := by
  have h1 := h.hD
  refine ⟨h1, ?_, ?_, ?_, hr _ (h.rw.set h.dd rfl), own_set h.lv h.dd (by decide), h.be.setCell (by show w.heap.size ≤ D; omega) _⟩
  · exact (Below.heap_setCell _ _ _ _ (by show w.heap.size ≠ D; omega)).trans h.sh
  · exact (Below.heap_setCell _ _ _ _ (by show w.heap.size + 1 ≠ D; omega)).trans h.rs
  · rw [setCell_heap h.dd, hc]
/-- The block of another row of the call's own is not the one that was appended to. -/
theorem kept_own {W w3 : World} {base base' : Nat} {e e' : TypeId} {size size' n n' : Nat} {v v' : Value} {xs xs' : List Value} (h : W.ownsRow base e size v n xs) (h' : W.ownsRow base' e' size' v' n' xs') (hk : Kept W v' w3) (hT : e ≠ e') : w3.ownsRow base e size v n xs :=
  own_keep h fun g hg => by
    rcases h.2 with ⟨h0, _⟩ | ⟨g', cap, cur, h0, _, h2, _⟩
    · rw [h0] at hg; cases hg
    · rw [h0] at hg
      injection hg with hg
      have hg : g' = g := hg
      subst hg
      exact hk.2 _ (Array.getElem?_eq_some_iff.1 h2).1 (own_ne h' h2 hT)
/-- A commitment was appended, and the slice stored. -/
theorem ShJ.com {w : World} {D : Nat} {sheet : Array Value} {f : DF} {com : List Int} {ms : List ShM} {ch : List UInt64} {p : Forks} {v : Value} {kl : Nat} {lv : List ByteArray} {W w3 : World} {C3 : Option Addr} {n3 c3 : Nat} {x : Int}
    (h : ShJ w D sheet f com ms ch p v kl lv W) (hk : Kept W (.slice f.C f.nc f.cc) w3) (hB : Below w.heap.size w w3) (hown : w3.ownsRow w.heap.size 3 1 (.slice C3 n3 c3) (f.nc + 1) (intV com ++ [.int .i64 x])) :
    ShJ w D sheet { f with C := C3, nc := f.nc + 1, cc := c3 } (com ++ [x]) ms ch p v kl lv (w3.setCell ⟨D, 3, none⟩ (.slice C3 n3 c3)) := by
  have hn : n3 = f.nc + 1 := own_len hown
  subst hn
  have h1 := h.hD
  have ks : ∀ {b : Nat} {cs : Array Value} {T : TypeId} {fr : Nat × Nat}, W.heap[b]? = some (.cells cs T fr) → T ≠ 3 → w3.heap[b]? = some (.cells cs T fr) := fun hb hT => (hk.2 _ (Array.getElem?_eq_some_iff.1 hb).1 (own_ne h.rw.c hb hT)).trans hb
  have hd := ks h.dd (by decide)
  refine ⟨h1, ?_, ?_, ?_, ?_, own_set (kept_own h.lv h.rw.c hk (by decide)) hd (by decide), hB.setCell (by show w.heap.size ≤ D; omega) _⟩
  · exact (Below.heap_setCell _ _ _ _ (by show w.heap.size ≠ D; omega)).trans (ks h.sh (by decide))
  · exact (Below.heap_setCell _ _ _ _ (by show w.heap.size + 1 ≠ D; omega)).trans (ks h.rs (by decide))
  · rw [setCell_heap hd]; rfl
  · refine ⟨?_, ?_, ?_, ?_, ?_⟩
    · rw [intV_snoc']; exact own_set hown hd (by decide)
    · exact own_set (kept_own h.rw.s h.rw.c hk (by decide)) hd (by decide)
    · exact fun y hy => own_set (kept_own (h.rw.sp y hy) h.rw.c hk (by decide)) hd (by decide)
    · exact own_set (kept_own h.rw.sa h.rw.c hk (by decide)) hd (by decide)
    · exact own_set (kept_own h.rw.sb h.rw.c hk (by decide)) hd (by decide)
/-- A leaf was appended. -/
theorem ShJ.leaf {w : World} {D : Nat} {sheet : Array Value} {f : DF} {com : List Int} {ms : List ShM} {ch : List UInt64} {p : Forks} {v v' : Value} {kl : Nat} {lv lv' : List ByteArray} {W w3 : World}
    (h : ShJ w D sheet f com ms ch p v kl lv W) (hk : Kept W v w3) (hB : Below w.heap.size w w3) (hown : w3.ownsRow w.heap.size 9 1 v' (kl + 1) (strV lv')) :
    ShJ w D sheet f com ms ch p v' (kl + 1) lv' w3 := by
  have ks : ∀ {b : Nat} {cs : Array Value} {T : TypeId} {fr : Nat × Nat}, W.heap[b]? = some (.cells cs T fr) → T ≠ 9 → w3.heap[b]? = some (.cells cs T fr) := fun hb hT => (hk.2 _ (Array.getElem?_eq_some_iff.1 hb).1 (own_ne h.lv hb hT)).trans hb
  exact ⟨h.hD, ks h.sh (by decide), ks h.rs (by decide), ks h.dd (by decide), h.rw.keep fun e _ _ _ _ he h' => kept_own h' h.lv hk (by rcases he with rfl | rfl | rfl | rfl <;> decide), hown, hB⟩
/-- A shown row was appended, and the slice stored. -/
theorem ShJ.shown {w : World} {D : Nat} {sheet : Array Value} {f : DF} {com : List Int} {ms : List ShM} {ch : List UInt64} {p : Forks} {v : Value} {kl : Nat} {lv : List ByteArray} {W w3 : World} {S3 : Option Addr} {n3 c3 : Nat} {x : ShM}
    (h : ShJ w D sheet f com ms ch p v kl lv W) (hx : W.ownsRow w.heap.size 93 2 (.slice x.PA x.p.length x.pc) x.p.length (forkV x.p)) (hk : Kept W (.slice f.S f.ns f.cs) w3) (hB : Below w.heap.size w w3)
    (hown : w3.ownsRow w.heap.size 48 6 (.slice S3 n3 c3) (f.ns + 1) (shmsV ms ++ shmV x)) :
    ShJ w D sheet { f with S := S3, ns := f.ns + 1, cs := c3 } com (ms ++ [x]) ch p v kl lv (w3.setCell ⟨D, 4, none⟩ (.slice S3 n3 c3)) := by
  have hn : n3 = f.ns + 1 := own_len hown
  subst hn
  have h1 := h.hD
  have ks : ∀ {b : Nat} {cs : Array Value} {T : TypeId} {fr : Nat × Nat}, W.heap[b]? = some (.cells cs T fr) → T ≠ 48 → w3.heap[b]? = some (.cells cs T fr) := fun hb hT => (hk.2 _ (Array.getElem?_eq_some_iff.1 hb).1 (own_ne h.rw.s hb hT)).trans hb
  have hd := ks h.dd (by decide)
  refine ⟨h1, ?_, ?_, ?_, ?_, own_set (kept_own h.lv h.rw.s hk (by decide)) hd (by decide), hB.setCell (by show w.heap.size ≤ D; omega) _⟩
  · exact (Below.heap_setCell _ _ _ _ (by show w.heap.size ≠ D; omega)).trans (ks h.sh (by decide))
  · exact (Below.heap_setCell _ _ _ _ (by show w.heap.size + 1 ≠ D; omega)).trans (ks h.rs (by decide))
  · rw [setCell_heap hd]; rfl
  · refine ⟨?_, ?_, ?_, ?_, ?_⟩
    · exact own_set (kept_own h.rw.c h.rw.s hk (by decide)) hd (by decide)
    · rw [shmsV_snoc]; exact own_set hown hd (by decide)
    · intro y hy
      rcases List.mem_append.1 hy with hy | hy
      · exact own_set (kept_own (h.rw.sp y hy) h.rw.s hk (by decide)) hd (by decide)
      · obtain rfl := List.mem_singleton.1 hy
        exact own_set (kept_own hx h.rw.s hk (by decide)) hd (by decide)
    · exact own_set (kept_own h.rw.sa h.rw.s hk (by decide)) hd (by decide)
    · exact own_set (kept_own h.rw.sb h.rw.s hk (by decide)) hd (by decide)
/-- The signature was stored. -/
theorem ShJ.sig {w : World} {D : Nat} {sheet : Array Value} {f : DF} {com : List Int} {ms : List ShM} {ch ch0 : List UInt64} {p p0 : Forks} {v : Value} {kl : Nat} {lv : List ByteArray} {W : World} {si : Int} {SA SB : Option Addr} {na ca nb cb : Nat}
    (h : ShJ w D sheet f com ms ch0 p0 v kl lv W) (ha : W.ownsRow w.heap.size 25 1 (.slice SA na ca) na (u64V ch)) (hb : W.ownsRow w.heap.size 93 2 (.slice SB nb cb) nb (forkV p)) :
    ShJ w D sheet { f with si := si, SA := SA, na := na, ca := ca, SB := SB, nb := nb, cb := cb } com ms ch p v kl lv (((W.setCell ⟨D, 7, none⟩ (.int .i64 si)).setCell ⟨D, 8, none⟩ (.slice SA na ca)).setCell ⟨D, 9, none⟩ (.slice SB nb cb)) := by
  have h1 := h.hD
  have d0 := h.dd
  have d1 := setCell_heap (j := 7) (v := .int .i64 si) d0
  have d2 := setCell_heap (j := 8) (v := .slice SA na ca) d1
  have d3 := setCell_heap (j := 9) (v := .slice SB nb cb) d2
  have o3 : ∀ {e : TypeId} {size n : Nat} {v : Value} {xs : List Value}, W.ownsRow w.heap.size e size v n xs → 36 ≠ e → (((W.setCell ⟨D, 7, none⟩ (.int .i64 si)).setCell ⟨D, 8, none⟩ (.slice SA na ca)).setCell ⟨D, 9, none⟩ (.slice SB nb cb)).ownsRow w.heap.size e size v n xs := fun hh hT => own_set (own_set (own_set hh d0 hT) d1 hT) d2 hT
  refine ⟨h1, ?_, ?_, ?_, ⟨o3 h.rw.c (by decide), o3 h.rw.s (by decide), fun x hx => o3 (h.rw.sp x hx) (by decide), o3 ha (by decide), o3 hb (by decide)⟩, o3 h.lv (by decide), ((h.be.setCell (by show w.heap.size ≤ D; omega) _).setCell (by show w.heap.size ≤ D; omega) _).setCell (by show w.heap.size ≤ D; omega) _⟩
  · exact (Below.heap_setCell _ _ _ _ (by show w.heap.size ≠ D; omega)).trans ((Below.heap_setCell _ _ _ _ (by show w.heap.size ≠ D; omega)).trans ((Below.heap_setCell _ _ _ _ (by show w.heap.size ≠ D; omega)).trans h.sh))
  · exact (Below.heap_setCell _ _ _ _ (by show w.heap.size + 1 ≠ D; omega)).trans ((Below.heap_setCell _ _ _ _ (by show w.heap.size + 1 ≠ D; omega)).trans ((Below.heap_setCell _ _ _ _ (by show w.heap.size + 1 ≠ D; omega)).trans h.rs))
  · rw [d3]; rfl
/-- A disclosure whose signature is there; j rows are shown. -/
def dfB (person : ByteArray) (month : Int) (root : UInt64) (C : Option Addr) (n cc : Nat) (S : Option Addr) (j cs : Nat) (hid bld si : Int) (SA : Option Addr) (ca : Nat) (SB : Option Addr) (nb cb : Nat) : DF := ⟨person, month, root, C, n, cc, S, j, cs, hid, bld, si, SA, 18, ca, SB, nb, cb⟩
end Go.Proofs.YtfjkmhbipkoefaaGreatDoor
