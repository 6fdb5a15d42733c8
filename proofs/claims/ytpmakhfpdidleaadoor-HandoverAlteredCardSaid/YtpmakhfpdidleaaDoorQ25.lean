/- Issued totals as elements of a list (layer 29). The walks of the reference of onetime: Verify in any case, Reused. The walk of the reference's Same (layer 25), on equal signatures. The walk of the reference's Sign (layer 25) where there is no key. The walk of the reference's Sign (layer 25). The box of a signed total, with its rows (layer 29). -/
import Derived.Test.YtpmakhfpdidleaaDoorQ24
import Derived.Test.YtpmakhfpdidleaaDoorQ23
namespace Go.Proofs.YtpmakhfpdidleaaDoor
open Go.RowKit Go.Shelf
set_option linter.unusedVariables false
set_option linter.unusedSimpArgs false
set_option maxRecDepth 100000
theorem Tabs.ct {w : World} (h : Tabs w) : CaT.Tabs w := h.1
theorem Tabs.ot {w : World} (h : Tabs w) : OTabs w := h.2
theorem issue_el (te tp : ByteArray) (tm tg tx : Int) (k : Nat) (hk : k < 8) (hv : Hid (validTB ⟨te, tp, tm, tg, tx⟩ = true)) (w : World) (hT : CaT.Tabs w) (hO : OTabs w) :
    Calls Tryd.prog 13 #[.string ⟨#[115, 101, 101, 100]⟩, .int .i64 3, .int .i64 (k : Int), .agg #[.string te, .string tp, .int .i64 tm, .int .i64 tg, .int .i64 tx]] w fun e w' => ∃ A ca B cb, e = .returned (.tuple #[.agg #[.string te, .string tp, .int .i64 tm, .int .i64 tg, .int .i64 tx, .int .i64 (k : Int), .slice A 18 ca, .slice B 3 cb], .int .i64 0]) ∧ IssEl w' ⟨te, tp, tm, tg, tx⟩ k ⟨⟨te, tp, tm, tg, tx⟩, (k : Int), A, 18, ca, B, 3, cb⟩ ∧ Below w.heap.size w w' := by
  have hsz := valid_sz hv.out
  have h := issue_own seedB 3 k 8 (by decide) (Lib.hid rfl) hk (by decide) te tp tm tg tx hv _ (Lib.hid rfl) _ (Lib.hid rfl) _ (Lib.hid rfl) w hsz.1 hsz.2 hT hO
  have hl : (pathL (leavesB seedB 8) (k : Int)).length = 3 := paT_len hk
  rw [hl] at h
  refine h.mono ?_
  rintro e w' ⟨A, ca, B, cb, rfl, ha, hb, hB⟩
  exact ⟨A, ca, B, cb, rfl, ⟨rfl, rfl, rfl, rfl, hk, hv.out, own_mono ha (Nat.zero_le _), own_mono hb (Nat.zero_le _)⟩, hB⟩
/-- Two elements, one after the other. -/
theorem acc_two (x y : ElM) (r : Int) (hx : validTB x.t = true) (hy : validTB y.t = true) (hr : wrongL [(x.t, x.j)] y.t y.j 0 = r) : ∃ T, accE (fun _ => true) [] [x, y] [] = (r, T) := by
  have h0 : okE (fun _ => true) [] x = 0 := by unfold okE wrongE; rw [if_pos hx, if_pos rfl]; rfl
  have h1 : okE (fun _ => true) [x] y = r := by unfold okE wrongE; rw [if_pos hy, if_pos rfl]; exact hr
  unfold accE
  rw [if_pos h0]
  rw [List.nil_append]
  unfold accE
  rw [h1]
  by_cases h : r = 0
  · rw [if_pos h, h]; unfold accE; exact ⟨_, rfl⟩
  · rw [if_neg h]; exact ⟨_, rfl⟩
theorem wl_key (x y : TotD) (k : Int) : wrongL [(x, k)] y k 0 = if x = y then 0 else 251 := by
  unfold wrongL
  dsimp only
  split
  · unfold wrongL; rfl
  · rw [if_pos rfl]
theorem wl_twice (x y : TotD) (k n : Int) (hne : ¬ k = n) (h : x.e = y.e ∧ x.p = y.p ∧ x.m = y.m) : wrongL [(x, k)] y n 0 = if x = y then 0 else 5 := by
  unfold wrongL
  dsimp only
  split
  · unfold wrongL; rfl
  · unfold wrongL
    rfl
end Go.Proofs.YtpmakhfpdidleaaDoor
namespace Go.Proofs.YtpmakhfpdidleaaDoor
open Go.RowKit Go.Shelf
set_option linter.unusedVariables false
set_option linter.unusedSimpArgs false
set_option maxRecDepth 100000
theorem rover_bad (root : UInt64) (h : Int) (text : ByteArray) (i : Int) (A B : Option Addr) (ca cb n m : Nat) (hbad : ¬ (0 ≤ h ∧ h ≤ 8 ∧ n = 18)) (hn : n ≤ maxLen) (w : World) :
    Calls Tryd.prog 9 #[.int .u64 root.toNat, .int .i64 h, .string text, .agg #[.int .i64 i, .slice A n ca, .slice B m cb]] w fun e w' => e = .returned (.bool false) ∧ Below w.heap.size w w' := by
  unfold maxLen at hn
  by_cases h0 : 0 ≤ h
  · by_cases h8 : h ≤ 8
    · have hne : ((n : Int) != 18) = true := by simp; omega
      have hh' : ¬ ((8 : Int) < h) := by omega
      clear hbad
      go_enter Tryd.func9, Tryd.ntmps9
      go_wp2_with fail
      go_ret
      exact ⟨rfl, (Below.refl _ _).alloc (Nat.le_refl _) _⟩
    · clear hbad
      go_enter Tryd.func9, Tryd.ntmps9
      go_wp2_with fail
      go_ret
      exact ⟨rfl, (Below.refl _ _).alloc (Nat.le_refl _) _⟩
  · clear hbad
    go_enter Tryd.func9, Tryd.ntmps9
    go_wp2_with fail
    go_ret
    exact ⟨rfl, (Below.refl _ _).alloc (Nat.le_refl _) _⟩
theorem rover_at (root : UInt64) (h : Int) (text : ByteArray) (d : UInt64) (hd : Hid (Dig.sum text.data.toList = d)) (ht : text.size ≤ maxLen) (i : Int) (A B : Option Addr) (ca cb n m : Nat) (c : List UInt64) (p : Forks) (hn : c.length = n) (hm : p.length = m) (hnl : n ≤ maxLen) (hp30 : m ≤ 100) (r : Bool)
    (hr : Hid (overB root h d i c p = r)) (w : World) (hA : Sl w w.heap.size 1 A n (u64V c)) (hBp : Sl w w.heap.size 2 B m (forkV p)) :
    Calls Tryd.prog 9 #[.int .u64 root.toNat, .int .i64 h, .string text, .agg #[.int .i64 i, .slice A n ca, .slice B m cb]] w fun e w' => e = .returned (.bool r) ∧ Below w.heap.size w w' := by
  subst hn
  rw [← hr.out]
  by_cases hok : 0 ≤ h ∧ h ≤ 8 ∧ c.length = 18
  · obtain ⟨h0, h8, h18⟩ := hok
    obtain ⟨k, rfl⟩ := Int.eq_ofNat_of_zero_le h0
    have e : overB root (k : Int) d i c p = verifyB root ((2 ^ k : Nat) : Int) i (bytesOf (On.climbTo c d 18)) p := by
      unfold overB
      rw [decide_eq_true (⟨h0, h8, h18⟩ : 0 ≤ (k : Int) ∧ (k : Int) ≤ 8 ∧ c.length = 18), Int.toNat_natCast, Bool.true_and]
    rw [e, h18]
    rw [h18] at hA
    exact rover_ok root k (2 ^ k) (by omega) (Lib.hid rfl) text d hd ht i A B ca cb c p m hm hp30 h18 _ (Lib.hid rfl) w hA hBp
  · have e : overB root h d i c p = false := by
      unfold overB
      rw [decide_eq_false hok, Bool.false_and]
    rw [e]
    exact rover_bad root h text i A B ca cb c.length m hok hnl w
end Go.Proofs.YtpmakhfpdidleaaDoor
namespace Go.Proofs.YtpmakhfpdidleaaDoor
open Go.RowKit Go.Shelf
set_option linter.unusedVariables false
set_option linter.unusedSimpArgs false
set_option maxRecDepth 100000
end Go.Proofs.YtpmakhfpdidleaaDoor
namespace Go.Proofs.YtpmakhfpdidleaaDoor
open Go.RowKit Go.Shelf
set_option linter.unusedVariables false
set_option linter.unusedSimpArgs false
end Go.Proofs.YtpmakhfpdidleaaDoor
namespace Go.Proofs.YtpmakhfpdidleaaDoor
open Go.RowKit Go.Shelf
set_option linter.unusedVariables false
set_option linter.unusedSimpArgs false
set_option maxRecDepth 100000
/-- The loop's state: the signature so far, and the digits' block. -/
structure SigR (w : World) (seed : List UInt8) (i : Nat) (d : UInt64) (g : Nat) (cur : Array Value) (k : Nat) (W : World) : Prop where
  sig : SigAt w seed i d k W
  dgs : W.heap[g]? = some (.cells cur 3 (0, 0))
theorem cell_cur {W : World} {g : Nat} {cur : Array Value} {d : UInt64} (h : W.heap[g]? = some (.cells cur 3 (0, 0))) (hc : cur.toList.take 18 = digR d) (k : Nat) (hk : k < 18) (m : Nat) (hm : On.dg d k = m) : W.cell? ⟨g, k, none⟩ = some (.int .i64 (m : Int)) := by
  rw [Lib.cell_of_heap h]
  have e := digR_get d k hk
  rw [← hc, List.getElem?_take, if_pos hk, hm] at e
  simpa using e
end Go.Proofs.YtpmakhfpdidleaaDoor
namespace Go.Proofs.YtpmakhfpdidleaaDoor
open Go.RowKit Go.Shelf
set_option linter.unusedVariables false
set_option linter.unusedSimpArgs false
set_option maxRecDepth 100000
theorem info_dgt : (Tryd.prog.info? 29).map (fun i => (i.zero, i.size, i.bytes)) = some (some (.int .u64 0), 1, 8) := by kernel_rfl
theorem info_fkt : (Tryd.prog.info? 41).map (fun i => (i.zero, i.size, i.bytes)) = some (some (.agg #[.int .u64 0, .bool false]), 2, 16) := by kernel_rfl
theorem u64s_one (c : List UInt64) : ∀ u ∈ u64V c, u.oneCell' = true := by
  intro u hu
  obtain ⟨t, _, rfl⟩ := List.mem_map.1 hu
  rfl
theorem forks_one (p : Forks) : ∀ u ∈ forkV p, u.oneCell' = true := by
  intro u hu
  obtain ⟨t, _, h⟩ := List.mem_flatMap.1 hu
  simp only [List.mem_cons, List.not_mem_nil, or_false] at h
  rcases h with h | h <;> · subst h; rfl
theorem Kept.row {W W' : World} {v u : Value} (k : Kept W v W') {b1 b2 : Nat} {e1 e2 : TypeId} {s1 s2 n m : Nat} {xs ys : List Value} (hv : W.ownsRow b1 e1 s1 v n xs) (hu : W.ownsRow b2 e2 s2 u m ys) (hne : e2 ≠ e1) : W'.ownsRow b2 e2 s2 u m ys :=
  own_keep hu fun g hg => by
    obtain ⟨cs, fr, hb⟩ := own_type hu hg
    exact k.2 g (own_far' hu hg).2 (own_ne hv hb hne)
theorem Kept.box {W W' : World} {v : Value} (k : Kept W v W') {b1 b : Nat} {e1 T : TypeId} {s1 n : Nat} {xs : List Value} {cs : Array Value} {fr : Nat × Nat} (hv : W.ownsRow b1 e1 s1 v n xs) (hb : W.heap[b]? = some (.cells cs T fr)) (hT : T ≠ e1) : W'.heap[b]? = some (.cells cs T fr) :=
  (k.2 b (Array.getElem?_eq_some_iff.1 hb).1 (own_ne hv hb hT)).trans hb
/-- The cells of an element that lies somewhere. -/
structure SgC (sb so : Nat) (c : List Value) (W : World) : Prop where
  at_ : ∀ j u, c[j]? = some u → W.cell? ⟨sb, so + j, none⟩ = some u
  lt : sb < W.heap.size
theorem SgC.go {sb so : Nat} {c : List Value} {W W' : World} (h : SgC sb so c W) (k : Below W.heap.size W W') : SgC sb so c W' := ⟨fun j u hu => (k.cell (p := ⟨sb, so + j, none⟩) h.lt).trans (h.at_ j u hu), Nat.lt_of_lt_of_le h.lt k.size⟩
theorem SgC.drew {sb so : Nat} {c : List Value} {W : World} (h : SgC sb so c W) : SgC sb so c W.drew := ⟨h.at_, h.lt⟩
/-- A signed total in a box, with its rows. -/
structure AltB (base X : Nat) (t : TotD) (j : Int) (A : Option Addr) (ca : Nat) (c : List UInt64) (B : Option Addr) (cb : Nat) (p : Forks) (W : World) : Prop where
  bx : W.heap[X]? = some (.cells #[.string t.e, .string t.p, .int .i64 t.m, .int .i64 t.g, .int .i64 t.x, .int .i64 j, .slice A 18 ca, .slice B 3 cb] 38 (0, 0))
  oa : W.ownsRow base 29 1 (.slice A 18 ca) 18 (u64V c)
  ob : W.ownsRow base 41 2 (.slice B 3 cb) 3 (forkV p)
  cl : c.length = 18
  pl : p.length = 3
  xb : base ≤ X
theorem AltB.go {base X : Nat} {t : TotD} {j : Int} {A : Option Addr} {ca : Nat} {c : List UInt64} {B : Option Addr} {cb : Nat} {p : Forks} {W W' : World} (h : AltB base X t j A ca c B cb p W) (k : Below W.heap.size W W') : AltB base X t j A ca c B cb p W' :=
  ⟨(k.block _ (Array.getElem?_eq_some_iff.1 h.bx).1).trans h.bx, own_below h.oa k, own_below h.ob k, h.cl, h.pl, h.xb⟩
theorem AltB.drew {base X : Nat} {t : TotD} {j : Int} {A : Option Addr} {ca : Nat} {c : List UInt64} {B : Option Addr} {cb : Nat} {p : Forks} {W : World} (h : AltB base X t j A ca c B cb p W) : AltB base X t j A ca c B cb p W.drew := h.go (Below.refl _ _).drew
/-- A cell of the box is stored. -/
theorem AltB.set {base X : Nat} {t : TotD} {j : Int} {A : Option Addr} {ca : Nat} {c : List UInt64} {B : Option Addr} {cb : Nat} {p : Forks} {W : World} (h : AltB base X t j A ca c B cb p W) (t' : TotD) (j' : Int) (q : Nat) (v : Value)
    (hq : (#[Value.string t.e, .string t.p, .int .i64 t.m, .int .i64 t.g, .int .i64 t.x, .int .i64 j, .slice A 18 ca, .slice B 3 cb]).setIfInBounds q v = #[.string t'.e, .string t'.p, .int .i64 t'.m, .int .i64 t'.g, .int .i64 t'.x, .int .i64 j', .slice A 18 ca, .slice B 3 cb]) : AltB base X t' j' A ca c B cb p (W.setCell ⟨X, q, none⟩ v) :=
  ⟨by rw [setCell_heap h.bx, hq], own_set h.oa h.bx (by decide), own_set h.ob h.bx (by decide), h.cl, h.pl, h.xb⟩
/-- A cell of a row of the call's own is stored. -/
theorem own_upd {W : World} {base : Nat} {e : TypeId} {size g n cap : Nat} {xs : List Value} (h : W.ownsRow base e size (.slice (some ⟨g, 0, none⟩) n cap) n xs) (j : Nat) (u : Value) : (W.setCell ⟨g, j, none⟩ u).ownsRow base e size (.slice (some ⟨g, 0, none⟩) n cap) n (xs.set j u) := by
  refine ⟨by rw [List.length_set]; exact h.1, ?_⟩
  rcases h.2 with ⟨h0, _⟩ | ⟨g', cap', cur, h1, h2, h3, h4, h5, h6, h7⟩
  · cases h0
  · injection h1 with e1 e2 e3
    injection e1 with e1
    injection e1 with e1
    subst e1 e3
    refine .inr ⟨g, cap, cur.setIfInBounds j u, rfl, h2, setCell_heap h3, h4, h5, by rw [Array.size_setIfInBounds]; exact h6, ?_⟩
    rw [Array.toList_setIfInBounds, ← h7, List.take_set]
theorem own_addr {W : World} {base : Nat} {e : TypeId} {size n cap : Nat} {A : Option Addr} {xs : List Value} (h : W.ownsRow base e size (.slice A n cap) n xs) (hn : 0 < n) : ∃ g cs, A = some ⟨g, 0, none⟩ ∧ W.heap[g]? = some (.cells cs e (0, 0)) ∧ base ≤ g ∧ n ≤ cap := by
  rcases h.2 with ⟨_, h0⟩ | ⟨g', cap', cur, h1, h2, h3, h4, _⟩
  · omega
  · injection h1 with e1 e2 e3
    subst e3
    exact ⟨g', cur, e1, h3, h2, h4⟩
theorem wrap_u64 (X : Int) : ∃ z : UInt64, IntKind.u64.wrap X = (z.toNat : Int) := by
  have h0 : 0 ≤ X % 2 ^ 64 := Int.emod_nonneg _ (by decide)
  have h1 : X % 2 ^ 64 < 2 ^ 64 := Int.emod_lt_of_pos _ (by decide)
  have h2 : IntKind.u64.wrap X = X % 2 ^ 64 := by
    unfold IntKind.wrap
    simp [IntKind.signed, IntKind.bits]
  refine ⟨UInt64.ofNat (X % 2 ^ 64).toNat, ?_⟩
  rw [h2, UInt64.toNat_ofNat']
  omega
theorem bits_u64 (op : BinOp) (x y : Int) : ∃ z : UInt64, bits op .u64 x y = (z.toNat : Int) := wrap_u64 _
theorem u64V_set (c : List UInt64) (i : Nat) (z : UInt64) : (u64V c).set i (.int .u64 z.toNat) = u64V (c.set i z) := by
  unfold u64V
  rw [List.map_set]
theorem forkV_set : ∀ (p : Forks) (i : Nat) (z : UInt64) (hi : i < p.length), (forkV p).set (i * 2) (.int .u64 z.toNat) = forkV (p.set i (z, (p[i]).2))
  | [], i, z, hi => by simp at hi
  | x :: p, 0, z, hi => by simp [forkV]
  | x :: p, i + 1, z, hi => by
    have h := forkV_set p i z (by simpa using hi)
    unfold forkV at h ⊢
    rw [List.flatMap_cons, show (i + 1) * 2 = i * 2 + 2 by omega]
    simp only [List.cons_append, List.nil_append, List.set_cons_succ, List.set_cons_succ, List.getElem_cons_succ, List.flatMap_cons]
    rw [h]
theorem u64V_at (c : List UInt64) (i : Nat) (hi : i < c.length) : ∃ z : UInt64, (u64V c)[i]? = some (.int .u64 z.toNat) := ⟨c[i], by unfold u64V; rw [List.getElem?_map, List.getElem?_eq_getElem hi]; rfl⟩
theorem forkV_at (p : Forks) (i : Nat) (hi : i < p.length) : ∃ z : UInt64, (forkV p)[i * 2]? = some (.int .u64 z.toNat) := ⟨(p[i]).1, by have := flat_get (fun q : UInt64 × Bool => [Value.int .u64 q.1.toNat, .bool q.2]) 2 (fun _ => rfl) p i hi 0 (by decide); rw [Nat.add_zero] at this; exact this⟩
/-- Accept of one element. -/
theorem acc_single (x : ElM) (okF : ElM → Bool) (hv : validTB x.t = true) : accE okF [] [x] [] = if okF x = true then (0, [x.t]) else (252, []) := by
  unfold accE okE wrongE
  rw [if_pos hv]
  by_cases h : okF x = true
  · rw [if_pos h, if_pos h]
    have : wrongL (List.map keyOf29 []) x.t x.j 0 = 0 := rfl
    rw [this, if_pos rfl]
    unfold accE
    simp
  · rw [if_neg h, if_neg h]
    rw [if_neg (by decide)]
end Go.Proofs.YtpmakhfpdidleaaDoor
