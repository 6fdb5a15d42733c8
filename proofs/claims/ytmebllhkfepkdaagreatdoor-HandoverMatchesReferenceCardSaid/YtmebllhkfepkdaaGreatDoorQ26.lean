/- issued of the law package (layer 29). The walk of the law package's head (layer 29). Arguments of the laws of layer 29: the tables, quadruples, lists of quadruples. -/
import Derived.Test.YtmebllhkfepkdaaGreatDoorQ22
import Derived.Test.YtmebllhkfepkdaaGreatDoorQ25
import Derived.Test.YtmebllhkfepkdaaGreatDoorQ06
import Derived.Deep.SlicePairs
import Derived.Laws.IdiomArrays
import Derived.Lib.SmallJoins
namespace Go.Proofs.YtmebllhkfepkdaaGreatDoor
open Go.RowKit Go.Shelf
set_option linter.unusedVariables false
set_option linter.unusedSimpArgs false
set_option maxRecDepth 100000
def root29 : UInt64 := keyD seedB 3
def dgT (t : TotD) : UInt64 := Dig.sum (textT t).data.toList
def chT (t : TotD) (i : Nat) : List UInt64 := On.chains seedB.data.toList (i : Int) (dgT t) 18
def paT (i : Nat) : Forks := keyP seedB 8 (i : Int)
theorem chT_len (t : TotD) (i : Nat) : (chT t i).length = 18 := On.chains_len _ _ _ _
theorem paT_len {i : Nat} (hi : i < 8) : (paT i).length = 3 := keyP_len seedB 3 8 i (by decide) (by decide) hi
theorem iss_over (t : TotD) {i : Nat} (hi : i < 8) : overB root29 3 (dgT t) (i : Int) (chT t i) (paT i) = true :=
  signed_over seedB 3 8 i (by decide) (by decide) (by decide) hi (dgT t)
/-- An element that issued has made. -/
structure IssEl (w : World) (t : TotD) (i : Nat) (x : ElM) : Prop where
  t_ : x.t = t
  j_ : x.j = (i : Int)
  an : x.an = 18
  bn : x.bn = 3
  i8 : i < 8
  va : validTB t = true
  oa : w.ownsRow 0 35 1 (.slice x.A 18 x.ac) 18 (u64V (chT t i))
  ob : w.ownsRow 0 64 2 (.slice x.B 3 x.bc) 3 (forkV (paT i))
theorem own_type {W : World} {base : Nat} {e : TypeId} {size n : Nat} {v : Value} {xs : List Value} {b : Nat} (h : W.ownsRow base e size v n xs) (hb : v.ownBlock = some b) : ∃ cs fr, W.heap[b]? = some (.cells cs e fr) := by
  rcases h.2 with ⟨h0, _⟩ | ⟨g, cap, cur, h0, _, h2, _⟩
  · rw [h0] at hb; cases hb
  · rw [h0] at hb
    injection hb with hb
    have hb : g = b := hb
    subst hb
    exact ⟨_, _, h2⟩
theorem IssEl.keep {W W' : World} {t : TotD} {i : Nat} {x : ElM} (h : IssEl W t i x) (hk : ∀ (b : Nat) (cs : Array Value) (T : TypeId) (fr : Nat × Nat), W.heap[b]? = some (.cells cs T fr) → T ≠ 33 → W'.heap[b]? = W.heap[b]?) : IssEl W' t i x := by
  obtain ⟨h1, h2, h3, h4, h5, h6, h7, h8⟩ := h
  refine ⟨h1, h2, h3, h4, h5, h6, own_keep h7 (fun g hg => ?_), own_keep h8 (fun g hg => ?_)⟩
  · obtain ⟨cs, fr, hb⟩ := own_type h7 hg
    exact hk g cs _ fr hb (by decide)
  · obtain ⟨cs, fr, hb⟩ := own_type h8 hg
    exact hk g cs _ fr hb (by decide)
theorem IssEl.go {W W' : World} {t : TotD} {i : Nat} {x : ElM} (h : IssEl W t i x) (hb : Below W.heap.size W W') : IssEl W' t i x := ⟨h.t_, h.j_, h.an, h.bn, h.i8, h.va, own_below h.oa hb, own_below h.ob hb⟩
theorem valid_sz {t : TotD} (h : validTB t = true) : t.e.size ≤ maxLen ∧ t.p.size ≤ maxLen := by
  obtain ⟨h1, h2, _⟩ := valid_out h
  have := name_size h1
  have := name_size h2
  unfold maxLen
  omega
theorem valid_wf {t : TotD} (h : validTB t = true) : TotWf t := by
  obtain ⟨h1, h2⟩ := valid_sz h
  obtain ⟨_, _, h3, h4, h5⟩ := valid_out h
  refine ⟨h1, h2, ?_, ?_, ?_⟩ <;> · simp [Lit.wf, IntKind.min, IntKind.max, IntKind.bits, IntKind.signed]; omega
theorem IssEl.sa {W : World} {t : TotD} {i : Nat} {x : ElM} (h : IssEl W t i x) : Sl W W.heap.size 1 x.A x.an (u64V (chT t i)) := by
  obtain ⟨A, c, e, hs⟩ := own_slice h.oa
  injection e with e1 e2 e3
  rw [h.an, e1]
  exact hs
theorem IssEl.sb {W : World} {t : TotD} {i : Nat} {x : ElM} (h : IssEl W t i x) : Sl W W.heap.size 2 x.B x.bn (forkV (paT i)) := by
  obtain ⟨A, c, e, hs⟩ := own_slice h.ob
  injection e with e1 e2 e3
  rw [h.bn, e1]
  exact hs
theorem IssEl.ok {W : World} {t : TotD} {i : Nat} {x : ElM} (h : IssEl W t i x) : ElOk W root29 3 (fun _ => true) x := by
  refine ⟨chT t i, paT i, ?_, ?_, ?_, h.sa, h.sb, ?_, ?_⟩
  · rw [h.an, chT_len]
  · rw [h.bn, paT_len h.i8]
  · rw [h.an]; decide
  · rw [h.t_, h.j_]
    exact iss_over t h.i8
  · rw [h.t_]
    exact valid_wf h.va
/-- The list that issued has made. -/
def IssL (W : World) (ts : List TotD) (es : List ElM) : Prop := es.length = min ts.length 8 ∧ ∀ (i : Nat) t x, ts[i]? = some t → es[i]? = some x → IssEl W t i x
theorem info_sgd : (Tryz.prog.info? 33).map (fun i => (i.zero, i.size, i.bytes)) = some (some (.agg #[.string ⟨#[]⟩, .string ⟨#[]⟩, .int .i64 0, .int .i64 0, .int .i64 0, .int .i64 0, .slice none 0 0, .slice none 0 0]), 8, 112) := by kernel_rfl
set_option maxHeartbeats 8000000 in
theorem issued_any (A : Option Addr) (n c : Nat) (ts : List TotD) (hn : ts.length = n) (hnl : n ≤ 1000000) (hv : ∀ t ∈ ts, validTB t = true) (w : World) (hT : CaT.Tabs w) (hO : OTabs w) (hS : Sl w w.heap.size 5 A n (ts.flatMap totL5)) :
    Calls Tryz.prog 5 #[.slice A n c] w fun e w' => ∃ v es, e = .returned (.tuple #[v, .int .u64 root29.toNat, .bool true]) ∧ w'.ownsRow w.heap.size 33 8 v es.length (es.flatMap elV) ∧ IssL w' ts es ∧ Below w.heap.size w w' := by
  obtain ⟨j0, hj0, hy0, hy1, hy2⟩ := info_parts info_sgd
  have HS := Lib.hid hS
  have Hv := Lib.hid hv
  have Hn := Lib.hid hn
  obtain ⟨rt, hrt⟩ : ∃ r, root29 = r := ⟨_, rfl⟩
  have Hrt : Hid (keyD seedB 3 = rt) := Lib.hid hrt
  rw [hrt]
  have HT := Lib.hid hT
  have HO := Lib.hid hO
  clear hS hv hn hrt hT hO
  go_enter Tryz.func5, Tryz.ntmps5
  go_wp2_with fail
  refine (rkey_any seedB 3 rt 0 Hrt (Lib.hid (by decide +kernel)) w (by decide) HO.out).mono ?_
  rintro e w1 ⟨rfl, hB1⟩
  go_wp2_with fail
  go_loopw [7, 8] (fun v ix wr => ∃ k : Nat, k ≤ n ∧ k ≤ 8 ∧ ix = .int .i64 (k : Int) ∧ ∃ es : List ElM, es.length = k ∧ wr.ownsRow w.heap.size 33 8 v es.length (es.flatMap elV) ∧ (∀ (i : Nat) t x, ts[i]? = some t → es[i]? = some x → IssEl wr t i x) ∧ Below w.heap.size w wr) (fun _ ix _ => n - (intOf ix).toNat)
  case atStart => exact ⟨0, Nat.zero_le _, by omega, rfl, [], rfl, ⟨rfl, .inl ⟨rfl, rfl⟩⟩, fun i t x _ h => by simp at h, hB1⟩
  case round =>
    clear hB1
    obtain ⟨k, hk, hk8, rfl, es, hes, hown, hel, hBr⟩ := hrel
    by_cases hlt : k < n ∧ k < 8
    · obtain ⟨hlt1, hlt2⟩ := hlt
      have hc1 : (k : Int) < (n : Int) := by omega
      have hc2 : (k : Int) < 8 := by omega
      obtain ⟨b, off, rfl, hb, hcell⟩ := HS.out.2 (by omega)
      have hkl : k < ts.length := by rw [Hn.out]; exact hlt1
      have hget := flat_get totL5 5 (fun _ => rfl) ts k hkl
      obtain ⟨t, ht⟩ : ∃ t, ts[k] = t := ⟨_, rfl⟩
      have htm : ts[k]? = some t := by rw [List.getElem?_eq_getElem hkl, ht]
      rw [ht] at hget
      have hva := Hv.out t (by rw [← ht]; exact List.getElem_mem hkl)
      obtain ⟨te, tp, tm, tg, tx⟩ := t
      have u0 : wr.cell? ⟨b, off + k * 5, none⟩ = some (.string te) := (hBr.cell (p := ⟨b, off + k * 5, none⟩) hb).trans (hcell _ _ (hget 0 (by decide)))
      have u1 : wr.cell? ⟨b, off + k * 5 + 1, none⟩ = some (.string tp) := (hBr.cell (p := ⟨b, off + k * 5 + 1, none⟩) hb).trans (hcell _ _ (hget 1 (by decide)))
      have u2 : wr.cell? ⟨b, off + k * 5 + 2, none⟩ = some (.int .i64 tm) := (hBr.cell (p := ⟨b, off + k * 5 + 2, none⟩) hb).trans (hcell _ _ (hget 2 (by decide)))
      have u3 : wr.cell? ⟨b, off + k * 5 + 3, none⟩ = some (.int .i64 tg) := (hBr.cell (p := ⟨b, off + k * 5 + 3, none⟩) hb).trans (hcell _ _ (hget 3 (by decide)))
      have u4 : wr.cell? ⟨b, off + k * 5 + 4, none⟩ = some (.int .i64 tx) := (hBr.cell (p := ⟨b, off + k * 5 + 4, none⟩) hb).trans (hcell _ _ (hget 4 (by decide)))
      have hsz := valid_sz hva
      dsimp only at hsz
      obtain ⟨tt, htt⟩ : ∃ q, textT ⟨te, tp, tm, tg, tx⟩ = q := ⟨_, rfl⟩
      obtain ⟨dd, hdd⟩ : ∃ q, Dig.sum tt.data.toList = q := ⟨_, rfl⟩
      obtain ⟨pp, hpp⟩ : ∃ q, pathL (leavesB seedB 8) (k : Int) = q := ⟨_, rfl⟩
      have hpl : pp.length = 3 := by rw [← hpp]; exact paT_len hlt2
      have Hva := Lib.hid hva
      have Htt := Lib.hid htt
      have Hdd := Lib.hid hdd
      have Hpp := Lib.hid hpp
      have Hpl := Lib.hid hpl
      have Htm := Lib.hid htm
      have Hown := Lib.hid hown
      have Hel := Lib.hid hel
      have Hes := Lib.hid hes
      have Hsz := Lib.hid hsz
      clear hcell hget hkl ht htm hva htt hdd hpp hpl hown hel hes hsz
      go_wp2_with fail
      have hiss := issue_own seedB 3 k 8 (by decide) (Lib.hid rfl) hlt2 (by decide) te tp tm tg tx Hva tt Htt dd Hdd pp Hpp wr Hsz.out.1 Hsz.out.2 (HT.out.go hBr) (HO.out.go hBr)
      rw [Hpl.out] at hiss
      refine hiss.mono ?_
      rintro e w4 ⟨sA, sca, sB, scb, rfl, ha4, hb4, hB4⟩
      clear hiss u0 u1 u2 u3 u4
      go_upto_region 7 with fail
      obtain ⟨V, hV⟩ : ∃ V, V = w4.alloc (.cells #[.string te, .string tp, .int .i64 tm, .int .i64 tg, .int .i64 tx, .int .i64 (k : Int), .slice sA 18 sca, .slice sB 3 scb] 33) := ⟨_, rfl⟩
      obtain ⟨Y, hY⟩ : ∃ x, x = w4.heap.size := ⟨_, rfl⟩
      have gY : V.heap[Y]? = some (.cells #[.string te, .string tp, .int .i64 tm, .int .i64 tg, .int .i64 tx, .int .i64 (k : Int), .slice sA 18 sca, .slice sB 3 scb] 33) := by rw [hV, hY]; exact World.alloc_heap_new _ _
      have hBV : Below w4.heap.size w4 V := by rw [hV]; exact bal (Below.refl _ _) _
      rw [← hV, ← hY]
      clear hV hY
      have y0 : V.cell? ⟨Y, 0, none⟩ = some (.string te) := by rw [Lib.cell_of_heap gY]; rfl
      have y1 : V.cell? ⟨Y, 1, none⟩ = some (.string tp) := by rw [Lib.cell_of_heap gY]; rfl
      have y2 : V.cell? ⟨Y, 2, none⟩ = some (.int .i64 tm) := by rw [Lib.cell_of_heap gY]; rfl
      have y3 : V.cell? ⟨Y, 3, none⟩ = some (.int .i64 tg) := by rw [Lib.cell_of_heap gY]; rfl
      have y4 : V.cell? ⟨Y, 4, none⟩ = some (.int .i64 tx) := by rw [Lib.cell_of_heap gY]; rfl
      have y5 : V.cell? ⟨Y, 5, none⟩ = some (.int .i64 (k : Int)) := by rw [Lib.cell_of_heap gY]; rfl
      have y6 : V.cell? ⟨Y, 6, none⟩ = some (.slice sA 18 sca) := by rw [Lib.cell_of_heap gY]; rfl
      have y7 : V.cell? ⟨Y, 7, none⟩ = some (.slice sB 3 scb) := by rw [Lib.cell_of_heap gY]; rfl
      have hBrV : Below wr.heap.size wr V := bgo hB4 hBV
      have hBwV : Below w.heap.size w V := bgo hBr hBrV
      have ownV := own_below Hown.out hBrV
      have hel2 : IssEl V ⟨te, tp, tm, tg, tx⟩ k ⟨⟨te, tp, tm, tg, tx⟩, (k : Int), sA, 18, sca, sB, 3, scb⟩ := by
        refine ⟨rfl, rfl, rfl, rfl, hlt2, Hva.out, ?_, ?_⟩
        · have := own_mono (own_below ha4 hBV) (Nat.zero_le _)
          unfold chT dgT
          rw [Htt.out, Hdd.out]
          exact this
        · have := own_mono (own_below hb4 hBV) (Nat.zero_le _)
          unfold paT keyP
          rw [Hpp.out]
          exact this
      have HelV := Lib.hid (fun (i : Nat) t x (h1 : ts[i]? = some t) (h2 : es[i]? = some x) => (Hel.out i t x h1 h2).go hBrV)
      have Hel2 := Lib.hid hel2
      have Hob := Lib.hid (fun (b : Nat) (cs : Array Value) (T : TypeId) (fr : Nat × Nat) (h : V.heap[b]? = some (.cells cs T fr)) (hT : T ≠ 33) => own_ne ownV h hT)
      have HV := Lib.hid (And.intro hBwV ownV)
      have hb0 : w.heap.size ≤ V.heap.size := hBwV.size
      have hes1 : es.length = k := Hes.out
      clear gY hBV hB4 ha4 hb4 hel2 hBrV hBwV ownV
      go_wp2_with (first
        | (at_builtin; refine app_src2 (w0 := w) w.heap.size (Nat.le_refl _) ?c0 rfl _ _ 22 rfl 33 j0 _ 8 112 Tryz.underlying22 hj0 hy0 hy1 hy2 rfl (by decide) u7 es.length (es.flatMap elV) rfl (HV.out.2.alloc _) (bal HV.out.1 _) (.slice (some ⟨V.heap.size, 0, none⟩) 1 1) 1 [.string te, .string tp, .int .i64 tm, .int .i64 tg, .int .i64 tx, .int .i64 (k : Int), .slice sA 18 sca, .slice sB 3 scb] rfl (block_src V [.string te, .string tp, .int .i64 tm, .int .i64 tg, .int .i64 tx, .int .i64 (k : Int), .slice sA 18 sca, .slice sB 3 scb] _ _ 1 1 8 rfl) (by simp [Value.oneCell']) (by unfold maxLen; omega) (by omega) ?_)
        | go_in)
      case c0 => first | omega | (simp; omega) | (rw [World.size_alloc]; omega)
      intro v7 w7 own7 bel7 kept7
      have hkeep : ∀ (b : Nat) (cs : Array Value) (T : TypeId) (fr : Nat × Nat), V.heap[b]? = some (.cells cs T fr) → T ≠ 33 → w7.heap[b]? = V.heap[b]? := by
        intro b cs T fr h hT
        have hbl := (Array.getElem?_eq_some_iff.1 h).1
        exact (kept7.2 b (by simp; omega) (Hob.out b cs T fr h hT)).trans (Below.heap_alloc _ _ _ hbl)
      have hfin : ∀ (i : Nat) t x, ts[i]? = some t → (es ++ [⟨⟨te, tp, tm, tg, tx⟩, (k : Int), sA, 18, sca, sB, 3, scb⟩])[i]? = some x → IssEl w7 t i x := by
        intro i t x h1 h2
        by_cases hi : i < es.length
        · rw [List.getElem?_append_left hi] at h2
          exact (HelV.out i t x h1 h2).keep hkeep
        · have hle : es.length ≤ i := Nat.le_of_not_lt hi
          rw [List.getElem?_append_right hle] at h2
          have hi2 : i - es.length = 0 := by
            have := (List.getElem?_eq_some_iff.1 h2).1
            simp at this
            omega
          rw [hi2] at h2
          have hx : _ = x := Option.some.inj h2
          have hik : i = k := by omega
          subst hik
          have ht' : _ = t := Option.some.inj (Htm.out.symm.trans h1)
          rw [← hx, ← ht']
          exact Hel2.out.keep hkeep
      have Hy := Lib.hid (And.intro own7 (And.intro bel7 hfin))
      clear own7 bel7 kept7 hkeep hfin y0 y1 y2 y3 y4 y5 y6 y7
      go_wp2_with fail
      go_roundw
      case rel => exact ⟨k + 1, by omega, by omega, by go_num, es ++ [⟨⟨te, tp, tm, tg, tx⟩, (k : Int), sA, 18, sca, sB, 3, scb⟩], by simp [Hes.out], by (have h := Hy.out.1; rw [List.flatMap_append, List.length_append, hes1]; exact h), Hy.out.2.2, Hy.out.2.1⟩
      case measure => simp [intOf]; omega
    · have hlen : es.length = min ts.length 8 := by rw [hes, Hn.out]; omega
      have Hfin := Lib.hid (And.intro hown (And.intro hlen (And.intro hel hBr)))
      clear hown hlen hel hBr hes
      by_cases hc : k < n
      · have hc1 : (k : Int) < (n : Int) := by omega
        have hc2 : ¬ (k : Int) < 8 := by omega
        go_wp2
        refine bodyPost_ret (v := .tuple #[u7, .int .u64 rt.toNat, .bool true]) (by simp [results, Tryz.results5, go_sem]) rfl ?_
        exact ⟨_, rfl, es, Hfin.out.1, ⟨Hfin.out.2.1, Hfin.out.2.2.1⟩, Hfin.out.2.2.2⟩
      · have hc1 : ¬ (k : Int) < (n : Int) := by omega
        go_wp2
        refine bodyPost_ret (v := .tuple #[u7, .int .u64 rt.toNat, .bool true]) (by simp [results, Tryz.results5, go_sem]) rfl ?_
        exact ⟨_, rfl, es, Hfin.out.1, ⟨Hfin.out.2.1, Hfin.out.2.2.1⟩, Hfin.out.2.2.2⟩
end Go.Proofs.YtmebllhkfepkdaaGreatDoor
namespace Go.Proofs.YtmebllhkfepkdaaGreatDoor
open Go.RowKit Go.Shelf
set_option linter.unusedVariables false
set_option linter.unusedSimpArgs false
set_option maxRecDepth 100000
def hT29 : TotD := ⟨⟨#[97, 99, 109, 101]⟩, ⟨#[97, 110, 110]⟩, 290, 250000, -5⟩
def hL29 : List TotD := [⟨⟨#[97, 99, 109, 101]⟩, ⟨#[97, 110, 110]⟩, 288, 100, 10⟩, ⟨⟨#[97, 99, 109, 101]⟩, ⟨#[97, 110, 110]⟩, 289, 250, 20⟩, ⟨⟨#[98, 111, 108, 116]⟩, ⟨#[97, 110, 110]⟩, 288, 7, 1⟩]
theorem own_slice2 {W : World} {base : Nat} {e : TypeId} {size n : Nat} {v : Value} {xs : List Value} (h : W.ownsRow base e size v n xs) : ∃ A cap, v = .slice A n cap ∧ Sl W W.heap.size size A n xs ∧ n ≤ cap ∧ cap ≤ maxLen := by
  obtain ⟨A, cap, hv, hs⟩ := own_slice h
  subst hv
  refine ⟨A, cap, rfl, hs, ?_⟩
  rcases h.2 with ⟨h1, h0⟩ | ⟨g, cap', cur, h1, _, _, h4, h5, _⟩
  · injection h1 with _ _ h1
    subst h1 h0
    exact ⟨Nat.le_refl _, Nat.zero_le _⟩
  · injection h1 with _ _ h1
    subst h1
    exact ⟨h4, h5⟩
theorem bef_at (A : Option Addr) (n c : Nat) (ts : List TotD) (hn : ts.length = n) (hnl : n ≤ 100) (person : ByteArray) (m : Int) (G X : Int) (hG : Hid (sumA TotD.g (befT person m ts) = G)) (hX : Hid (sumA TotD.x (befT person m ts) = X)) (hm : 0 ≤ m ∧ m ≤ 1199) (hwf : ∀ t ∈ ts, t.e.size ≤ maxLen ∧ t.p.size ≤ maxLen) (w : World) (hS : Sl w w.heap.size 5 A n (ts.flatMap totL5)) :
    Calls Tryz.prog 15 #[.slice A n c, .string person, .int .i64 m] w fun e w' => e = .returned (.tuple #[.int .i64 G, .int .i64 X]) ∧ Below w.heap.size w w' := by
  obtain ⟨mo, rfl⟩ := Int.eq_ofNat_of_zero_le hm.1
  rw [← hG.out, ← hX.out]
  exact before_ok A n c ts hn hnl person mo (by omega) _ (Lib.hid rfl) hwf w hS
/-- Accept, of a list of issued totals that differ in employer, person or month. -/
theorem acc_one (t : TotD) (x : ElM) (hx : x.t = t) (hv : validTB t = true) : accE (fun _ => true) [] [x] [] = (0, [t]) := by
  subst hx
  have h0 : okE (fun _ => true) [] x = 0 := by
    unfold okE wrongE
    rw [if_pos hv, if_pos rfl]
    rfl
  unfold accE
  rw [if_pos h0]
  simp [accE]
theorem head_text : textT hT29 = ⟨#[116, 111, 116, 97, 108, 32, 97, 99, 109, 101, 32, 97, 110, 110, 32, 50, 48, 50, 52, 45, 48, 51, 32, 50, 53, 48, 48, 48, 48, 32, 45, 53]⟩ := by decide +kernel
theorem head_valid : validTB hT29 = true := by decide +kernel
theorem head_bad : validTB ⟨⟨#[]⟩, ⟨#[]⟩, 0, 0, 0⟩ = false := by decide +kernel
theorem hbef1 : sumA TotD.g (befT ⟨#[97, 110, 110]⟩ 290 hL29) = 257 ∧ sumA TotD.x (befT ⟨#[97, 110, 110]⟩ 290 hL29) = 21 := by decide +kernel
theorem hbef2 : sumA TotD.g (befT ⟨#[97, 110, 110]⟩ 289 hL29) = 107 ∧ sumA TotD.x (befT ⟨#[97, 110, 110]⟩ 289 hL29) = 11 := by decide +kernel
theorem hbef3 : sumA TotD.g (befT ⟨#[97, 110, 110]⟩ 288 hL29) = 0 ∧ sumA TotD.x (befT ⟨#[97, 110, 110]⟩ 288 hL29) = 0 := by decide +kernel
theorem hbef4 : sumA TotD.g (befT ⟨#[97, 110, 110]⟩ 300 hL29) = 0 ∧ sumA TotD.x (befT ⟨#[97, 110, 110]⟩ 300 hL29) = 0 := by decide +kernel
theorem hsz29 : ∀ t ∈ hL29, t.e.size ≤ maxLen ∧ t.p.size ≤ maxLen := by decide +kernel
structure HdH (T E : Nat) (W : World) : Prop where
  t : W.heap[T]? = some (.cells #[.string ⟨#[97, 99, 109, 101]⟩, .string ⟨#[97, 110, 110]⟩, .int .i64 290, .int .i64 250000, .int .i64 (-5)] 25)
  l : Sl W W.heap.size 5 (some ⟨E, 0, none⟩) 3 (hL29.flatMap totL5)
theorem HdH.go {T E : Nat} {W W' : World} (h : HdH T E W) (k : Below W.heap.size W W') : HdH T E W' := ⟨(k.block _ (Array.getElem?_eq_some_iff.1 h.t).1).trans h.t, h.l.go k⟩
theorem hbef (E : Nat) (T : Nat) (m G X : Int) (hG : sumA TotD.g (befT ⟨#[97, 110, 110]⟩ m hL29) = G ∧ sumA TotD.x (befT ⟨#[97, 110, 110]⟩ m hL29) = X) (hm : 0 ≤ m ∧ m ≤ 1199) (W : World) (h : HdH T E W) :
    Calls Tryz.prog 15 #[.slice (some ⟨E, 0, none⟩) 3 3, .string ⟨#[97, 110, 110]⟩, .int .i64 m] W fun e w' => e = .returned (.tuple #[.int .i64 G, .int .i64 X]) ∧ HdH T E w' ∧ Below W.heap.size W w' :=
  (bef_at _ 3 3 hL29 rfl (by decide) ⟨#[97, 110, 110]⟩ m G X (Lib.hid hG.1) (Lib.hid hG.2) hm hsz29 W h.l).mono fun e w' ⟨h1, h2⟩ => ⟨h1, h.go h2, h2⟩
theorem htext29 (w : World) (hT : CaT.Tabs w) : Calls Tryz.prog 13 #[.agg #[.string ⟨#[97, 99, 109, 101]⟩, .string ⟨#[97, 110, 110]⟩, .int .i64 290, .int .i64 250000, .int .i64 (-5)]] w fun e w' => e = .returned (.string ⟨#[116, 111, 116, 97, 108, 32, 97, 99, 109, 101, 32, 97, 110, 110, 32, 50, 48, 50, 52, 45, 48, 51, 32, 50, 53, 48, 48, 48, 48, 32, 45, 53]⟩) ∧ Below w.heap.size w w' :=
  text29_any ⟨#[97, 99, 109, 101]⟩ ⟨#[97, 110, 110]⟩ 290 250000 (-5) ⟨#[116, 111, 116, 97, 108, 32, 97, 99, 109, 101, 32, 97, 110, 110, 32, 50, 48, 50, 52, 45, 48, 51, 32, 50, 53, 48, 48, 48, 48, 32, 45, 53]⟩ (Lib.hid head_text) w (by decide) (by decide) hT
set_option maxHeartbeats 8000000 in
theorem head29_any (w : World) (hT : CaT.Tabs w) (hO : OTabs w) : Calls Tryz.prog 4 #[] w fun e w' => e = .returned (.bool true) ∧ Below w.heap.size w w' := by
  have HT := Lib.hid hT
  have HO := Lib.hid hO
  obtain ⟨rt, hrt⟩ : ∃ r, root29 = r := ⟨_, rfl⟩
  have Hrt := Lib.hid hrt
  clear hT hO hrt
  go_enter Tryz.func4, Tryz.ntmps4
  go_upto_region 3 with fail
  obtain ⟨V, hV⟩ : ∃ W, W = (w.alloc (.cells #[.string ⟨#[97, 99, 109, 101]⟩, .string ⟨#[97, 110, 110]⟩, .int .i64 290, .int .i64 250000, .int .i64 (-5)] 25)).alloc (.cells #[.string ⟨#[97, 99, 109, 101]⟩, .string ⟨#[97, 110, 110]⟩, .int .i64 288, .int .i64 100, .int .i64 10, .string ⟨#[97, 99, 109, 101]⟩, .string ⟨#[97, 110, 110]⟩, .int .i64 289, .int .i64 250, .int .i64 20, .string ⟨#[98, 111, 108, 116]⟩, .string ⟨#[97, 110, 110]⟩, .int .i64 288, .int .i64 7, .int .i64 1] 25) := ⟨_, rfl⟩
  obtain ⟨T, hT⟩ : ∃ x, x = w.heap.size := ⟨_, rfl⟩
  obtain ⟨E, hE⟩ : ∃ x, x = w.heap.size + 1 := ⟨_, rfl⟩
  rw [← hV]
  try rw [← hE]
  try rw [← hT]
  have hB : Below w.heap.size w V := by rw [hV]; exact bal (bal (Below.refl _ _) _) _
  have hH : HdH T E V := by
    constructor
    · rw [hV, hT]; exact heap_alloc2_old w _ _
    · rw [hV, hE]; exact sl_cells (heap_alloc2_new w _ _) rfl rfl
  have H0 := Lib.hid (And.intro hH hB)
  clear hV hT hE hB hH
  go_wp2_with fail
  refine (hbef E T 290 257 21 hbef1 (by decide) V H0.out.1).mono ?_
  rintro e w1 ⟨rfl, hH, hB⟩
  have H1 := Lib.hid (And.intro hH (bgo H0.out.2 hB))
  clear hH hB
  go_wp2_with fail
  refine (hbef E T 289 107 11 hbef2 (by decide) w1 H1.out.1).mono ?_
  rintro e w2 ⟨rfl, hH, hB⟩
  have H2 := Lib.hid (And.intro hH (bgo H1.out.2 hB))
  clear hH hB
  go_wp2_with fail
  refine (hbef E T 288 0 0 hbef3 (by decide) w2 H2.out.1).mono ?_
  rintro e w3 ⟨rfl, hH, hB⟩
  have H3 := Lib.hid (And.intro hH (bgo H2.out.2 hB))
  clear hH hB
  go_wp2_with fail
  refine (hbef E T 300 0 0 hbef4 (by decide) w3 H3.out.1).mono ?_
  rintro e w4 ⟨rfl, hH, hB⟩
  have H4 := Lib.hid (And.intro hH (bgo H3.out.2 hB))
  clear hH hB
  have gT := H4.out.1.t
  have x0 : w4.cell? ⟨T, 0, none⟩ = some (.string ⟨#[97, 99, 109, 101]⟩) := by rw [Lib.cell_of_heap gT]; rfl
  have x1 : w4.cell? ⟨T, 1, none⟩ = some (.string ⟨#[97, 110, 110]⟩) := by rw [Lib.cell_of_heap gT]; rfl
  have x2 : w4.cell? ⟨T, 2, none⟩ = some (.int .i64 290) := by rw [Lib.cell_of_heap gT]; rfl
  have x3 : w4.cell? ⟨T, 3, none⟩ = some (.int .i64 250000) := by rw [Lib.cell_of_heap gT]; rfl
  have x4 : w4.cell? ⟨T, 4, none⟩ = some (.int .i64 (-5)) := by rw [Lib.cell_of_heap gT]; rfl
  clear gT
  go_wp2_with fail
  clear x0 x1 x2 x3 x4
  obtain ⟨V5, hV5⟩ : ∃ W, W = w4.alloc (.cells #[.string ⟨#[97, 99, 109, 101]⟩, .string ⟨#[97, 110, 110]⟩, .int .i64 290, .int .i64 250000, .int .i64 (-5)] 25) := ⟨_, rfl⟩
  obtain ⟨E5, hE5⟩ : ∃ x, x = w4.heap.size := ⟨_, rfl⟩
  rw [← hV5]
  try rw [← hE5]
  have hB45 : Below w4.heap.size w4 V5 := by rw [hV5]; exact bal (Below.refl _ _) _
  have hS5 : Sl V5 V5.heap.size 5 (some ⟨E5, 0, none⟩) 1 ([hT29].flatMap totL5) := by rw [hV5, hE5]; exact sl_cells (World.alloc_heap_new _ _) rfl rfl
  have hB5 := bgo H4.out.2 hB45
  clear hV5 hE5
  refine (issued_any _ 1 1 [hT29] rfl (by decide) (fun t ht => by rw [List.mem_singleton.1 ht]; exact head_valid) V5 (HT.out.go hB5) (HO.out.go hB5) hS5).mono ?_
  rintro e w5 ⟨v, es, rfl, hown, hiss, hB⟩
  rw [Hrt.out]
  obtain ⟨x, rfl⟩ : ∃ x, es = [x] := by
    have := hiss.1
    match es, this with
    | [x], _ => exact ⟨x, rfl⟩
  have hx := hiss.2 0 hT29 x rfl rfl
  obtain ⟨A, cap, rfl, hSl, hc1, hc2⟩ := own_slice2 hown
  have H5 := Lib.hid (And.intro (H4.out.1.go (bgo hB45 hB)) (And.intro (bgo hB5 hB) (And.intro hx (And.intro hSl (And.intro hc1 hc2)))))
  clear hown hiss hB hx hSl hc1 hc2 hB5 hB45 hS5
  go_wp2_with fail
  have hxo : ElOk w5 rt 3 (fun _ => true) x := by rw [← Hrt.out]; exact H5.out.2.2.1.ok
  refine (accept_any rt 3 A cap 1 [x] rfl (fun _ => true) 0 [hT29] (Lib.hid (acc_one hT29 x H5.out.2.2.1.t_ head_valid)) w5 (HT.out.go H5.out.2.1) (HO.out.go H5.out.2.1) H5.out.2.2.2.1 (fun y hy => by rw [List.mem_singleton.1 hy]; exact hxo) H5.out.2.2.2.2 (by decide)).mono ?_
  rintro e w6 ⟨v6, rfl, hown6, hB6⟩
  obtain ⟨A6, cap6, rfl, hSl6, hc6, hc6'⟩ := own_slice2 hown6
  have H6 := Lib.hid (And.intro (H5.out.1.go hB6) (And.intro (bgo H5.out.2.1 hB6) hSl6))
  clear hxo hown6 hB6 hSl6 hc6 hc6'
  go_wp2_with fail
  refine (issue_no seedB 3 0 ⟨#[]⟩ ⟨#[]⟩ 0 0 0 (Lib.hid head_bad) w6 (by decide) (by decide)).mono ?_
  rintro e w7 ⟨rfl, hB7⟩
  have H7 := Lib.hid (And.intro (H6.out.1.go hB7) (And.intro (bgo H6.out.2.1 hB7) (H6.out.2.2.go hB7)))
  clear hB7
  go_upto_region 10 with fail
  obtain ⟨V8, hV8⟩ : ∃ W, W = w7.alloc (.cells #[.string ⟨#[]⟩, .string ⟨#[]⟩, .int .i64 0, .int .i64 0, .int .i64 0, .int .i64 0, .slice none 0 0, .slice none 0 0] 33) := ⟨_, rfl⟩
  rw [← hV8]
  have hB8 : Below w7.heap.size w7 V8 := by rw [hV8]; exact bal (Below.refl _ _) _
  have H8 := Lib.hid (And.intro (H7.out.1.go hB8) (And.intro (bgo H7.out.2.1 hB8) (H7.out.2.2.go hB8)))
  clear hV8 hB8
  have gT := H8.out.1.t
  have x0 : V8.cell? ⟨T, 0, none⟩ = some (.string ⟨#[97, 99, 109, 101]⟩) := by rw [Lib.cell_of_heap gT]; rfl
  have x1 : V8.cell? ⟨T, 1, none⟩ = some (.string ⟨#[97, 110, 110]⟩) := by rw [Lib.cell_of_heap gT]; rfl
  have x2 : V8.cell? ⟨T, 2, none⟩ = some (.int .i64 290) := by rw [Lib.cell_of_heap gT]; rfl
  have x3 : V8.cell? ⟨T, 3, none⟩ = some (.int .i64 250000) := by rw [Lib.cell_of_heap gT]; rfl
  have x4 : V8.cell? ⟨T, 4, none⟩ = some (.int .i64 (-5)) := by rw [Lib.cell_of_heap gT]; rfl
  clear gT
  go_wp2_with fail
  refine (issue_bad seedB 3 8 ⟨#[97, 99, 109, 101]⟩ ⟨#[97, 110, 110]⟩ 290 250000 (-5) (Lib.hid head_valid) (Lib.hid (by decide +kernel)) (by decide) V8 (by decide) (by decide) (HT.out.go H8.out.2.1)).mono ?_
  rintro e w9 ⟨rfl, hB9⟩
  clear x0 x1 x2 x3 x4
  have H9 := Lib.hid (And.intro (H8.out.1.go hB9) (And.intro (bgo H8.out.2.1 hB9) (H8.out.2.2.go hB9)))
  clear hB9
  go_upto_region 11 with fail
  obtain ⟨VA, hVA⟩ : ∃ W, W = w9.alloc (.cells #[.string ⟨#[]⟩, .string ⟨#[]⟩, .int .i64 0, .int .i64 0, .int .i64 0, .int .i64 0, .slice none 0 0, .slice none 0 0] 33) := ⟨_, rfl⟩
  rw [← hVA]
  have hBA : Below w9.heap.size w9 VA := by rw [hVA]; exact bal (Below.refl _ _) _
  have HA := Lib.hid (And.intro (H9.out.1.go hBA) (And.intro (bgo H9.out.2.1 hBA) (H9.out.2.2.go hBA)))
  clear hVA hBA
  have gT := HA.out.1.t
  have x0 : VA.cell? ⟨T, 0, none⟩ = some (.string ⟨#[97, 99, 109, 101]⟩) := by rw [Lib.cell_of_heap gT]; rfl
  have x1 : VA.cell? ⟨T, 1, none⟩ = some (.string ⟨#[97, 110, 110]⟩) := by rw [Lib.cell_of_heap gT]; rfl
  have x2 : VA.cell? ⟨T, 2, none⟩ = some (.int .i64 290) := by rw [Lib.cell_of_heap gT]; rfl
  have x3 : VA.cell? ⟨T, 3, none⟩ = some (.int .i64 250000) := by rw [Lib.cell_of_heap gT]; rfl
  have x4 : VA.cell? ⟨T, 4, none⟩ = some (.int .i64 (-5)) := by rw [Lib.cell_of_heap gT]; rfl
  clear gT
  go_wp2_with fail
  refine (htext29 VA (HT.out.go HA.out.2.1)).mono ?_
  rintro e wB ⟨rfl, hBB⟩
  clear x0 x1 x2 x3 x4
  have HB := Lib.hid (And.intro (HA.out.1.go hBB) (And.intro (bgo HA.out.2.1 hBB) (HA.out.2.2.go hBB)))
  clear hBB
  have gT := HB.out.1.t
  have x0 : wB.cell? ⟨T, 0, none⟩ = some (.string ⟨#[97, 99, 109, 101]⟩) := by rw [Lib.cell_of_heap gT]; rfl
  have x1 : wB.cell? ⟨T, 1, none⟩ = some (.string ⟨#[97, 110, 110]⟩) := by rw [Lib.cell_of_heap gT]; rfl
  have x2 : wB.cell? ⟨T, 2, none⟩ = some (.int .i64 290) := by rw [Lib.cell_of_heap gT]; rfl
  have x3 : wB.cell? ⟨T, 3, none⟩ = some (.int .i64 250000) := by rw [Lib.cell_of_heap gT]; rfl
  have x4 : wB.cell? ⟨T, 4, none⟩ = some (.int .i64 (-5)) := by rw [Lib.cell_of_heap gT]; rfl
  clear gT
  go_wp2_with fail
  clear x0 x1 x2 x3 x4
  obtain ⟨VC, hVC⟩ : ∃ W, W = wB.alloc (.cells #[.string ⟨#[97, 99, 109, 101]⟩, .string ⟨#[97, 110, 110]⟩, .int .i64 290, .int .i64 250000, .int .i64 (-5)] 25) := ⟨_, rfl⟩
  obtain ⟨EC, hEC⟩ : ∃ x, x = wB.heap.size := ⟨_, rfl⟩
  rw [← hVC]
  try rw [← hEC]
  have hBC : Below wB.heap.size wB VC := by rw [hVC]; exact bal (Below.refl _ _) _
  have hSC : Sl VC VC.heap.size 5 (some ⟨EC, 0, none⟩) 1 ([hT29].flatMap totL5) := by rw [hVC, hEC]; exact sl_cells (World.alloc_heap_new _ _) rfl rfl
  clear hVC hEC
  refine (same29_any A6 _ cap6 1 1 1 [hT29] [hT29] rfl rfl (by decide) true (Lib.hid (decide_eq_true rfl)) VC (HB.out.2.2.go hBC) hSC).mono ?_
  rintro e wD ⟨rfl, hBD⟩
  go_wp2
  go_ret
  exact ⟨rfl, bgo (bgo HB.out.2.1 hBC) hBD⟩
end Go.Proofs.YtmebllhkfepkdaaGreatDoor
namespace Go.Proofs.YtmebllhkfepkdaaGreatDoor
open Go.RowKit Go.ChangeShapes Go.WideShapes Go.Deep Go.Shelf
set_option linter.unusedVariables false
set_option linter.unusedSimpArgs false
set_option maxRecDepth 100000
def Tabs (w : World) : Prop := CaT.Tabs w ∧ OTabs w
theorem Tabs.go {w w' : World} (h : Tabs w) (hb : Below w.heap.size w w') : Tabs w' := ⟨h.1.go hb, h.2.go hb⟩
theorem gBef : Tryz.prog.globalNamed "wageoffice/calendar.before" = some 0 := by kernel_rfl
theorem gDig : Tryz.prog.globalNamed "wageoffice/digest.digits" = some 1 := by kernel_rfl
theorem tab_heap {W : World} {name : String} {g : Nat} {k : IntKind} {zs : List Int} (hg : Tryz.prog.globalNamed name = some g) (h : Lib.TabIs Tryz.prog W name k zs) : ∃ t fr, W.heap[g]? = some (.cells (zs.map fun z => Value.int k z).toArray t fr) := by
  unfold Lib.TabIs World.var? at h
  rw [hg] at h
  simp only [Option.bind_some] at h
  split at h
  · rename_i cs t fr hq
    refine ⟨t, fr, ?_⟩
    rw [hq]
    simpa using h
  · cases h
theorem tabs_of_vars {W : World} {z1 z2 : List Int} (_ : Lib.TabIs Tryz.prog W "math/bits.deBruijn32tab" .u8 z1) (_ : Lib.TabIs Tryz.prog W "math/bits.deBruijn64tab" .u8 z2)
    (h3 : Lib.TabIs Tryz.prog W "internal/strconv.uint64pow10" .u64 Lib.pow10Tab) (h4 : Lib.TabIs Tryz.prog W "wageoffice/calendar.before" .i64 [0, 31, 59, 90, 120, 151, 181, 212, 243, 273, 304, 334, 365])
    (h5 : Lib.TabIs Tryz.prog W "wageoffice/digest.digits" .u8 [48, 49, 50, 51, 52, 53, 54, 55, 56, 57, 97, 98, 99, 100, 101, 102]) : Tabs W := by
  refine ⟨⟨?_, h3⟩, ?_, h3⟩
  · obtain ⟨t, fr, h⟩ := tab_heap gBef h4
    exact ⟨t, fr, by rw [h]; rfl⟩
  · obtain ⟨t, fr, h⟩ := tab_heap gDig h5
    exact ⟨t, fr, by rw [h]; rfl⟩
/-- Four numbers. -/
structure Quad where
  a : Int
  b : Int
  c : Int
  d : Int
def QuadOk (q : Quad) : Prop := I64 q.a ∧ I64 q.b ∧ I64 q.c ∧ I64 q.d
def quadV (q : Quad) : List Value := [.int .i64 q.a, .int .i64 q.b, .int .i64 q.c, .int .i64 q.d]
theorem cells_int35 : Tryz.prog.cellsOf 3 = 1 := by kernel_rfl
theorem okWide_arr {P : Program} {w : World} {r : Reach} {base : Nat} {t e : TypeId} {n : Nat} {v : Value} (ht : P.underlying t = some (.array n e)) (h : Value.okWide P w r base t v) : ∃ cs, v = .agg cs ∧ cs.size = P.cellsOf t := by
  simp only [Value.okWide, ht] at h
  obtain ⟨cs, h1, h2, _⟩ := h
  exact ⟨cs, h1, h2⟩
theorem open_int4 {H : Type} {enc : TypeId × Value → H} {W : World} {base : Nat} {v : Value} {d : DataW H} {p : List MemPlace} (hv : Value.okWide Tryz.prog W .any base 56 v) (h : DataW.Trod enc Tryz.prog W 0 (fun _ => true) true 56 v d p) :
    ∃ q : Quad, v = .agg #[.int .i64 q.a, .int .i64 q.b, .int .i64 q.c, .int .i64 q.d] ∧ QuadOk q := by
  obtain ⟨cs, rfl, hsz⟩ := okWide_arr Tryz.underlying56 hv
  rw [(by kernel_rfl : Tryz.prog.cellsOf 56 = 4)] at hsz
  obtain ⟨cs⟩ := cs
  match cs, hsz with
  | [c0, c1, c2, c3], _ =>
    obtain ⟨fuel, hf⟩ := h
    obtain ⟨y0, y1, y2, y3, m, _, hy0, hy1, hy2, hy3⟩ := trod_array4 Tryz.underlying56 cells_int35 hf
    obtain ⟨a, ha, _, wa⟩ := DataW.trod_int Tryz.underlying3 hy0
    obtain ⟨b, hb, _, wb⟩ := DataW.trod_int Tryz.underlying3 hy1
    obtain ⟨c, hc, _, wc⟩ := DataW.trod_int Tryz.underlying3 hy2
    obtain ⟨e, he, _, we⟩ := DataW.trod_int Tryz.underlying3 hy3
    refine ⟨⟨a, b, c, e⟩, ?_, bounds_i64 wa, bounds_i64 wb, bounds_i64 wc, bounds_i64 we⟩
    simp at ha hb hc he
    rw [ha, hb, hc, he]
instance : Inhabited Quad := ⟨⟨0, 0, 0, 0⟩⟩
theorem quads_len (l : List Quad) : (l.flatMap quadV).length = l.length * 4 := by
  induction l with
  | nil => rfl
  | cons x l ih => rw [List.flatMap_cons, List.length_append, ih, List.length_cons, show (quadV x).length = 4 from rfl]; omega
theorem tr_quads {H : Type} {enc : TypeId × Value → H} {W : World} {n : Nat} {v : Value} {y : DataW H × List MemPlace} (h : DataW.trod enc Tryz.prog W 0 (fun _ => true) true n 26 [v] = some y) :
    ∃ (A : Option Addr) (c : Nat) (l : List Quad), v = .slice A l.length c ∧ Sl W W.heap.size 4 A l.length (l.flatMap quadV) ∧ (l.length ≤ c ∧ c ≤ maxLen) ∧ ∀ x ∈ l, QuadOk x := by
  rcases open_slice Tryz.underlying26 h with ⟨hcs, _⟩ | ⟨a, len, cap, m, n', D, Pl, hcs, hb, hl, hm, hmm, hx, hi⟩
  · obtain rfl : v = .slice none 0 0 := by simpa using hcs
    exact ⟨none, 0, [], rfl, Sl.nil _ 4, ⟨Nat.le_refl _, Nat.zero_le _⟩, fun x hx => by cases hx⟩
  · obtain rfl : v = .slice (some a) len cap := by simpa using hcs
    simp only [if_true] at hmm
    subst hmm
    have hC : Tryz.prog.cellsOf 56 = 4 := by kernel_rfl
    have each : ∀ i, i < m → ∃ x : Quad, W.cell? (a.add (i * 4 + 0)) = some (.int .i64 x.a) ∧ W.cell? (a.add (i * 4 + 1)) = some (.int .i64 x.b) ∧ W.cell? (a.add (i * 4 + 2)) = some (.int .i64 x.c) ∧ W.cell? (a.add (i * 4 + 3)) = some (.int .i64 x.d) ∧ QuadOk x := by
      intro i hi'
      obtain ⟨cs', hc, ht'⟩ := hi i hi'
      rw [hC] at hc
      obtain ⟨_, hcl, hat⟩ := World.cells?_some hc
      match cs', hcl with
      | [c0, c1, c2, c3], _ =>
        obtain ⟨y0, y1, y2, y3, n2, _, hy0, hy1, hy2, hy3⟩ := trod_array4 Tryz.underlying56 cells_int35 ht'
        obtain ⟨z0, e0, _, w0⟩ := DataW.trod_int Tryz.underlying3 hy0
        obtain ⟨z1, e1, _, w1⟩ := DataW.trod_int Tryz.underlying3 hy1
        obtain ⟨z2, e2, _, w2⟩ := DataW.trod_int Tryz.underlying3 hy2
        obtain ⟨z3, e3, _, w3⟩ := DataW.trod_int Tryz.underlying3 hy3
        obtain rfl : c0 = .int .i64 z0 := by simpa using e0
        obtain rfl : c1 = .int .i64 z1 := by simpa using e1
        obtain rfl : c2 = .int .i64 z2 := by simpa using e2
        obtain rfl : c3 = .int .i64 z3 := by simpa using e3
        refine ⟨⟨z0, z1, z2, z3⟩, ?_, ?_, ?_, ?_, bounds_i64 w0, bounds_i64 w1, bounds_i64 w2, bounds_i64 w3⟩
        · rw [← Go.Deep.add_add, hat 0 (by decide)]; rfl
        · rw [← Go.Deep.add_add, hat 1 (by decide)]; rfl
        · rw [← Go.Deep.add_add, hat 2 (by decide)]; rfl
        · rw [← Go.Deep.add_add, hat 3 (by decide)]; rfl
    obtain ⟨X, hX⟩ := choose_lt each
    have ht : ((List.range len).map X).length = len := by simp
    refine ⟨some a, m, (List.range len).map X, by rw [ht], ?_, ⟨by omega, by omega⟩, ?_⟩
    · refine sl_of_row (by rw [quads_len]) (fun _ => by omega) ?_
      intro j u hu
      obtain ⟨hj, e⟩ := List.getElem?_eq_some_iff.1 hu
      rw [quads_len, ht] at hj
      have hq : j / 4 < len := by omega
      obtain ⟨c0, c1, c2, c3, _⟩ := hX (j / 4) (by omega)
      have hql : j / 4 < ((List.range len).map X).length := by rw [ht]; exact hq
      have hget := flat_get quadV 4 (fun _ => rfl) ((List.range len).map X) (j / 4) hql
      have g0 : (((List.range len).map X).flatMap quadV)[j / 4 * 4 + 0]? = _ := hget 0 (by decide)
      have g1 : (((List.range len).map X).flatMap quadV)[j / 4 * 4 + 1]? = _ := hget 1 (by decide)
      have g2 : (((List.range len).map X).flatMap quadV)[j / 4 * 4 + 2]? = _ := hget 2 (by decide)
      have g3 : (((List.range len).map X).flatMap quadV)[j / 4 * 4 + 3]? = _ := hget 3 (by decide)
      have hj3 : j = j / 4 * 4 + 0 ∨ j = j / 4 * 4 + 1 ∨ j = j / 4 * 4 + 2 ∨ j = j / 4 * 4 + 3 := by omega
      rcases hj3 with hjj | hjj | hjj | hjj
      · rw [Nat.add_zero] at hjj
        rw [Nat.add_zero, ← hjj, hu] at g0
        rw [Nat.add_zero, ← hjj] at c0
        rw [c0, Option.some.inj g0]
        simp
      · rw [← hjj, hu] at g1
        rw [← hjj] at c1
        rw [c1, Option.some.inj g1]
        simp
      · rw [← hjj, hu] at g2
        rw [← hjj] at c2
        rw [c2, Option.some.inj g2]
        simp
      · rw [← hjj, hu] at g3
        rw [← hjj] at c3
        rw [c3, Option.some.inj g3]
        simp
    · intro x hx
      obtain ⟨i, hi, rfl⟩ := List.mem_map.1 hx
      exact (hX i (by have := List.mem_range.1 hi; omega)).2.2.2.2
theorem sl_quads {H : Type} {enc : TypeId × Value → H} {W : World} {base : Nat} {v : Value} {d : DataW H} {p : List MemPlace} (hv : Value.okWide Tryz.prog W .any base 26 v) (h : DataW.Trod enc Tryz.prog W 0 (fun _ => true) true 26 v d p) :
    ∃ (A : Option Addr) (c : Nat) (l : List Quad), v = .slice A l.length c ∧ Sl W W.heap.size 4 A l.length (l.flatMap quadV) ∧ (l.length ≤ c ∧ c ≤ maxLen) ∧ ∀ x ∈ l, QuadOk x := by
  obtain ⟨a0, len, cap, rfl⟩ := okWide_slice Tryz.underlying26 hv
  obtain ⟨fuel, hf⟩ := h
  exact tr_quads hf
end Go.Proofs.YtmebllhkfepkdaaGreatDoor
