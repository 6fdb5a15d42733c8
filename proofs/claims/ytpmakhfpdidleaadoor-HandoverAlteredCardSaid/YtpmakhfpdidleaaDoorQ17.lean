/- The walks of package handover, fifth part: Accept. Regions that draw their order, walked inside the wide fence: an operation that yields its value in every world that meets S is taken first (for a call of yield beside loads and calls). -/
import Derived.Test.YtpmakhfpdidleaaDoorQ16
import Derived.Test.YtpmakhfpdidleaaDoorQ06
import Derived.OrdersIn
import Derived.OrdersHeld
import Derived.Deep.RegionHeld
import Derived.CallsIn
namespace Go.Proofs.YtpmakhfpdidleaaDoor
open Go.RowKit Go.Shelf Go.Maps
set_option linter.unusedVariables false
set_option linter.unusedSimpArgs false
set_option maxRecDepth 100000
/-- append(v, src...) run, the row's own base apart from the world that is compared. -/
theorem run_app2 {P : Program} {W w0 : World} (base : Nat) (hb0 : w0.heap.size ≤ base) (hbW : base ≤ W.heap.size) (t ty e : TypeId) (i : TypeInfo) (z : Value) (size bytes : Nat) (ht : P.underlying t = some (.slice e)) (hi : P.info? e = some i) (hz : i.zero = some z)
    (hsize : i.size = size) (hby : i.bytes = bytes) (hzs : z.cells.size = size) (hsz : 0 < size) (v : Value) (n : Nat) (xs : List Value) (hown : W.ownsRow base e size v n xs) (hB : Below w0.heap.size w0 W)
    (sv : Value) (m : Nat) (cs : List Value) (hsrc : Src W size sv m cs) (h1 : ∀ u ∈ cs, u.oneCell' = true) (h63 : n + m ≤ maxLen) (hbytes : (n + m) * bytes ≤ 140737488355328) :
    ∃ v' w', (Builtin.append_ #[t, t] ty #[v, sv]).run P W = .ok v' w' ∧ w'.ownsRow base e size v' (n + m) (xs ++ cs) ∧ Below w0.heap.size w0 w' ∧ Kept W v w' := by
  rcases hsrc with ⟨rfl, rfl, rfl⟩ | ⟨ad, c, rfl, hl, hc⟩
  · have hrun := run_append_owned_none (P := P) (w := W) base t ty e i size ht hi v n xs hown
    exact ⟨v, W, hrun, by simpa using hown, hB, Nat.le_refl _, fun _ _ _ => rfl⟩
  · obtain ⟨v', w', hr, h2, h3, h4⟩ := run_append_own (P := P) W base t ty e i z size bytes ht hi hz hsize hby hzs hsz v n xs hown ad m c cs hl hc h1 h63 hbytes hbW
    exact ⟨v', w', hr, h2, hB.grown h3 hB.size (fun k hk => Nat.le_trans hb0 (hown.lt k hk).1), h3.size, fun b hb hne => h3.block b hb (fun e => hne e.symm)⟩
theorem app_src2 {P : Program} {W w0 : World} {ops : Array Oper} {rest : List Oper} {o : Oper} {a : Act} {Q : Exit → Act → World → Prop} (base : Nat) (hb0 : w0.heap.size ≤ base) (hbW : base ≤ W.heap.size) (hgd : o.guard = none) (s x : Operand) (t : TypeId)
    (ho : o.op = .call { callee := .builtin .append, args := #[s, x], argTypes := #[t, t] }) (e : TypeId) (i : TypeInfo) (z : Value) (size bytes : Nat) (ht : P.underlying t = some (.slice e)) (hi : P.info? e = some i) (hz : i.zero = some z)
    (hsize : i.size = size) (hby : i.bytes = bytes) (hzs : z.cells.size = size) (hsz : 0 < size) (v : Value) (n : Nat) (xs : List Value) (hs : a.eval s = v) (hown : W.ownsRow base e size v n xs) (hB : Below w0.heap.size w0 W)
    (sv : Value) (m : Nat) (cs : List Value) (hx : a.eval x = sv) (hsrc : Src W size sv m cs) (h1 : ∀ u ∈ cs, u.oneCell' = true) (h63 : n + m ≤ maxLen) (hbytes : (n + m) * bytes ≤ 140737488355328)
    (h : ∀ v' w', w'.ownsRow base e size v' (n + m) (xs ++ cs) → Below w0.heap.size w0 w' → Kept W v w' → wpList P ops Q rest (a.put o.dst v') w') : wpList P ops Q (o :: rest) a W := by
  obtain ⟨v', w', hr, h2, h3, h4⟩ := run_app2 base hb0 hbW (ty := o.type) t e i z size bytes ht hi hz hsize hby hzs hsz v n xs hown hB sv m cs hsrc h1 h63 hbytes
  refine wpList_plain hgd fun K hK => ?_
  unfold Oper.wp
  simp [execOp, ho, resolve, invoke, builtin, hs, hx, hr, Result.andThen]
  exact hK _ _ (h v' w' h2 h3 h4)

theorem own_far' {W : World} {base : Nat} {e : TypeId} {size n : Nat} {v : Value} {xs : List Value} (h : W.ownsRow base e size v n xs) {b : Nat} (hb : v.ownBlock = some b) : base ≤ b ∧ b < W.heap.size := h.lt b hb
theorem ownsMap_below {H : Type} {W W' : World} {P : Program} {k : TypeId} {R : Value → Option (DataW H × List MemPlace)} {b n : Nat} {D : DataW H} (h : W.ownsMap P k R b n D) (hb : Below W.heap.size W W') : W'.ownsMap P k R b n D := by
  obtain ⟨es, clock, h1, F, hs, hD⟩ := h
  exact ⟨es, clock, (hb.block b (Array.getElem?_eq_some_iff.1 h1).1).trans h1, F, hs, hD⟩
theorem ownsMap_block {H : Type} {W W' : World} {P : Program} {k : TypeId} {R : Value → Option (DataW H × List MemPlace)} {b n : Nat} {D : DataW H} (h : W.ownsMap P k R b n D) (hb : W'.heap[b]? = W.heap[b]?) : W'.ownsMap P k R b n D := by
  obtain ⟨es, clock, h1, F, hs, hD⟩ := h
  exact ⟨es, clock, hb.trans h1, F, hs, hD⟩
theorem SeenT.put {H : Type} {l : List TotD} {D : DataW H} {t : TotD} (h : SeenT l D) (hD : IsMap D) (ht : TotWf t) : SeenT (l ++ [t]) (D.put (keyT t) (.lit (.bool true))) := by
  refine ⟨fun u hu => ?_⟩
  by_cases e : u = t
  · subst e
    rw [atKey_put_same hD (lawT.key (keyOf_tot ht)), decide_eq_true (by simp)]
  · rw [atKey_put_other (fun h' => e (keyT_inj hu ht h')), h.at_ u hu]
    congr 2
    simp [e]
theorem TotWf.sz {t : TotD} (h : TotWf t) : t.e.size ≤ maxLen ∧ t.p.size ≤ maxLen := ⟨h.1, h.2.1⟩
def totL5 (t : TotD) : List Value := [.string t.e, .string t.p, .int .i64 t.m, .int .i64 t.g, .int .i64 t.x]
def okE (okF : ElM → Bool) (pre : List ElM) (x : ElM) : Int := wrongE (pre.map keyOf29) x.t x.j (okF x)
theorem hn_flat_take {α : Type} (f : α → List Value) (c : Nat) (hf : ∀ x, (f x).length = c) : ∀ (l : List α) (k : Nat), (l.flatMap f).take (k * c) = (l.take k).flatMap f
  | [], k => by simp
  | x :: l, 0 => by simp
  | x :: l, k + 1 => by
    rw [List.flatMap_cons, List.take_succ_cons, List.flatMap_cons, ← hn_flat_take f c hf l k, List.take_append, hf, Nat.add_mul, Nat.one_mul, Nat.add_sub_cancel, List.take_of_length_le (by rw [hf]; omega)]
/-- What Accept returns: the error, the totals. -/
def accE (okF : ElM → Bool) : List ElM → List ElM → List TotD → Int × List TotD
  | _, [], acc => (0, acc)
  | pre, x :: l, acc => if okE okF pre x = 0 then accE okF (pre ++ [x]) l (if x.t ∈ acc then acc else acc ++ [x.t]) else (okE okF pre x, [])
/-- An element of the list, in the world. -/
def ElOk (w : World) (root : UInt64) (h : Int) (okF : ElM → Bool) (x : ElM) : Prop :=
  ∃ c p, c.length = x.an ∧ p.length = x.bn ∧ x.an ≤ maxLen ∧ Sl w w.heap.size 1 x.A x.an (u64V c) ∧ Sl w w.heap.size 2 x.B x.bn (forkV p) ∧ overB root h (Dig.sum (textT x.t).data.toList) x.j c p = okF x ∧ TotWf x.t
theorem ElOk.go {w w' : World} {root : UInt64} {h : Int} {okF : ElM → Bool} {x : ElM} (k : ElOk w root h okF x) (hb : Below w.heap.size w w') : ElOk w' root h okF x := by
  obtain ⟨c, p, h1, h2, h3, h4, h5, h6, h7⟩ := k
  exact ⟨c, p, h1, h2, h3, h4.go hb, h5.go hb, h6, h7⟩
theorem info_tot : (Tryd.prog.info? 25).map (fun i => (i.zero, i.size, i.bytes)) = some (some (.agg #[.string ⟨#[]⟩, .string ⟨#[]⟩, .int .i64 0, .int .i64 0, .int .i64 0]), 5, 56) := by kernel_rfl
theorem keyOf_tot' (te tp : ByteArray) (tm tg tx : Int) (h : TotWf ⟨te, tp, tm, tg, tx⟩) : keyOf Tryd.prog 25 (.agg #[.string te, .string tp, .int .i64 tm, .int .i64 tg, .int .i64 tx]) = some (keyT ⟨te, tp, tm, tg, tx⟩) := keyOf_tot h
theorem lookT {W : World} {b n : Nat} {D : DataW Unit} {acc : List TotD} (te tp : ByteArray) (tm tg tx : Int) (h : W.ownsMap Tryd.prog 25 (plainElem Tryd.prog 4) b n D) (hs : SeenT acc D) (ht : TotWf ⟨te, tp, tm, tg, tx⟩) (r : Bool) (hr : decide ((⟨te, tp, tm, tg, tx⟩ : TotD) ∈ acc) = r) :
    (Instr.lookup 56 (.map (some b)) (.agg #[.string te, .string tp, .int .i64 tm, .int .i64 tg, .int .i64 tx]) false).run Tryd.prog W = .ok (.bool r) W := by
  obtain ⟨v, ps, hrun, hv⟩ := h.lookup lawT Tryd.underlying56 (zeroB _) (plainElem_bool Tryd.underlying4 false) (keyOf_tot' te tp tm tg tx ht)
  rw [hs.at_ _ ht, hr] at hv
  obtain ⟨a, rfl, ha⟩ := plainElem_bool_inv Tryd.underlying4 hv
  simp at ha
  rw [hrun, ha.1]
set_option maxHeartbeats 8000000 in
theorem accept_any (root : UInt64) (h : Int) (E : Option Addr) (ce k : Nat) (es : List ElM) (hk : es.length = k) (okF : ElM → Bool) (r : Int) (T : List TotD) (hr : Hid (accE okF [] es [] = (r, T))) (w : World) (hT : CaT.Tabs w) (hO : OTabs w) (hE : Sl w w.heap.size 8 E k (es.flatMap elV)) (hel : ∀ x ∈ es, ElOk w root h okF x) (hkc : k ≤ ce ∧ ce ≤ maxLen) (hk64 : k ≤ 64) :
    Calls Tryd.prog 8 #[.int .u64 root.toNat, .int .i64 h, .slice E k ce] w fun e w' => ∃ v, e = .returned (.tuple #[v, .int .i64 r]) ∧ w'.ownsRow w.heap.size 25 5 v T.length (T.flatMap totL5) ∧ Below w.heap.size w w' := by
  have hmm := @run_makeMap Tryd.prog
  have HE := Lib.hid hE
  have Hel := Lib.hid hel
  have Hk := Lib.hid hk
  have hn64 : ¬ (64 : Int) < (k : Int) := by omega
  obtain ⟨j0, hj0, hy0, hy1, hy2⟩ := info_parts info_tot
  have hst : Hid (accE okF (es.take 0) (es.drop 0) [] = (r, T)) := Lib.hid hr.out
  clear hE hel hr
  go_enter Tryd.func8, Tryd.ntmps8
  go_wp2
  obtain ⟨b, hb⟩ : ∃ x, x = w.heap.size := ⟨_, rfl⟩
  have hm0 : (w.alloc (.map #[] 0)).ownsMap Tryd.prog 25 (plainElem (H := Unit) Tryd.prog 4) b 0 (.map []) := by rw [hb]; exact World.ownsMap_made _ _ _ _
  rw [← hb]
  have Hb := Lib.hid hb
  have hbw : w.heap.size ≤ b := Nat.le_of_eq hb.symm
  clear hb
  go_loopw [8, 19] (fun v ix wr => ∃ q : Nat, q ≤ k ∧ ix = .int .i64 (q : Int) ∧ ∃ (acc : List TotD) (D : DataW Unit), wr.ownsRow (b + 1) 25 5 v acc.length (acc.flatMap totL5) ∧ acc.length ≤ q ∧ wr.ownsMap Tryd.prog 25 (plainElem Tryd.prog 4) b q D ∧ SeenT acc D ∧ accE okF (es.take q) (es.drop q) acc = (r, T) ∧ Below w.heap.size w wr ∧ b < wr.heap.size) (fun _ ix _ => k - (intOf ix).toNat)
  case atStart => exact ⟨0, Nat.zero_le _, rfl, [], _, ⟨rfl, .inl ⟨rfl, rfl⟩⟩, Nat.le_refl _, hm0, SeenT.new, hst.out, bal (Below.refl _ _) _, by have := Hb.out; simp; omega⟩
  case round =>
    clear hst hm0
    obtain ⟨q, hq, rfl, acc, D, hown, hal, hmap, hseen, hacc, hBr, hbr⟩ := hrel
    by_cases hlt : q < k
    · have hlt' : (q : Int) < (k : Int) := by omega
      obtain ⟨eb, eo, rfl, heb, hec⟩ := HE.out.2 (by omega)
      have hql : q < es.length := by rw [Hk.out]; exact hlt
      have hget := flat_get elV 8 (fun _ => rfl) es q hql
      obtain ⟨x, hx⟩ : ∃ x, es[q] = x := ⟨_, rfl⟩
      have hdr : es.drop q = x :: es.drop (q + 1) := by rw [List.drop_eq_getElem_cons hql, hx]
      have htk : es.take (q + 1) = es.take q ++ [x] := by rw [List.take_succ_eq_append_getElem hql, hx]
      have hxe := (Hel.out x (by rw [← hx]; exact List.getElem_mem hql)).go hBr
      rw [hdr] at hacc
      unfold accE at hacc
      rw [← htk] at hacc
      rw [hx] at hget
      have htl : (es.take q).length = q := by rw [List.length_take]; omega
      have hEq : Sl wr wr.heap.size 8 (some ⟨eb, eo, none⟩) q ((es.take q).flatMap elV) := by
        have h1 := (HE.out.go hBr).take q (by omega)
        have h2 := hn_flat_take elV 8 (fun _ => rfl) es q
        rw [h2] at h1
        exact h1
      obtain ⟨⟨oe, op, om, og, ox⟩, oj, oA, oan, oac, oB, obn, obc⟩ := x
      obtain ⟨c, p, c1, c2, c3, c4, c5, c6, c7⟩ := hxe
      dsimp only at c1 c2 c3 c4 c5 c6 hacc
      obtain ⟨e0, he0⟩ : ∃ v, okE okF (es.take q) ⟨⟨oe, op, om, og, ox⟩, oj, oA, oan, oac, oB, obn, obc⟩ = v := ⟨_, rfl⟩
      rw [he0] at hacc
      obtain ⟨tt, htt⟩ : ∃ t, textT ⟨oe, op, om, og, ox⟩ = t := ⟨_, rfl⟩
      have Htt := Lib.hid htt
      rw [htt] at c6
      unfold okE at he0
      obtain ⟨okb, hokb⟩ : ∃ v, okF ⟨⟨oe, op, om, og, ox⟩, oj, oA, oan, oac, oB, obn, obc⟩ = v := ⟨_, rfl⟩
      rw [hokb] at he0 c6
      have Hok : Hid (overB root h (Dig.sum tt.data.toList) oj c p = okb) := Lib.hid c6
      have He0 : Hid (wrongE ((es.take q).map keyOf29) ⟨oe, op, om, og, ox⟩ oj okb = e0) := Lib.hid he0
      have hBe : ∀ j u, (elV ⟨⟨oe, op, om, og, ox⟩, oj, oA, oan, oac, oB, obn, obc⟩)[j]? = some u → j < 8 → wr.cell? ⟨eb, eo + q * 8 + j, none⟩ = some u := fun j u hu hj => (hBr.cell (p := ⟨eb, eo + q * 8 + j, none⟩) heb).trans (by rw [Nat.add_assoc]; exact hec _ _ ((hget j hj).trans hu))
      have u0 : wr.cell? ⟨eb, eo + q * 8, none⟩ = some (.string oe) := hBe 0 _ rfl (by decide)
      have u1 : wr.cell? ⟨eb, eo + q * 8 + 1, none⟩ = some (.string op) := hBe 1 _ rfl (by decide)
      have u2 : wr.cell? ⟨eb, eo + q * 8 + 2, none⟩ = some (.int .i64 om) := hBe 2 _ rfl (by decide)
      have u3 : wr.cell? ⟨eb, eo + q * 8 + 3, none⟩ = some (.int .i64 og) := hBe 3 _ rfl (by decide)
      have u4 : wr.cell? ⟨eb, eo + q * 8 + 4, none⟩ = some (.int .i64 ox) := hBe 4 _ rfl (by decide)
      have u5 : wr.cell? ⟨eb, eo + q * 8 + 5, none⟩ = some (.int .i64 oj) := hBe 5 _ rfl (by decide)
      have u6 : wr.cell? ⟨eb, eo + q * 8 + 6, none⟩ = some (.slice oA oan oac) := hBe 6 _ rfl (by decide)
      have u7 : wr.cell? ⟨eb, eo + q * 8 + 7, none⟩ = some (.slice oB obn obc) := hBe 7 _ rfl (by decide)
      have Hacc := Lib.hid hacc
      have Hown := Lib.hid hown
      have Hmap := Lib.hid hmap
      have Hseen := Lib.hid hseen
      have HC := Lib.hid (And.intro c4 (And.intro c5 hEq))
      have Hwf := Lib.hid c7
      have hwz : oe.size ≤ maxLen ∧ op.size ≤ maxLen := TotWf.sz c7
      have Htk := Lib.hid htk
      have Htl := Lib.hid htl
      clear hacc hown hmap hseen c4 c5 hEq c6 c7 htk htl hget hx hdr hec hBe he0 hokb htt hql
      go_upto_region 8 with fail
      obtain ⟨V, hV⟩ : ∃ V, V = wr.alloc (.cells #[.string oe, .string op, .int .i64 om, .int .i64 og, .int .i64 ox, .int .i64 oj, .slice oA oan oac, .slice oB obn obc] 38) := ⟨_, rfl⟩
      obtain ⟨Y, hY⟩ : ∃ x, x = wr.heap.size := ⟨_, rfl⟩
      have gY : V.heap[Y]? = some (.cells #[.string oe, .string op, .int .i64 om, .int .i64 og, .int .i64 ox, .int .i64 oj, .slice oA oan oac, .slice oB obn obc] 38) := by rw [hV, hY]; exact World.alloc_heap_new _ _
      have hBV : Below wr.heap.size wr V := by rw [hV]; exact bal (Below.refl _ _) _
      have hYb : Y ≠ b := by omega
      have hYw : wr.heap.size ≤ Y := by omega
      rw [← hV, ← hY]
      clear hV hY u0 u1 u2 u3 u4 u5 u6 u7
      have GY := Lib.hid (show V.drew.heap[Y]? = some (.cells #[.string oe, .string op, .int .i64 om, .int .i64 og, .int .i64 ox, .int .i64 oj, .slice oA oan oac, .slice oB obn obc] 38) from gY)
      have hYl : Y < V.drew.heap.size := (Array.getElem?_eq_some_iff.1 gY).1
      have hBVd : Below w.heap.size w V.drew := (bgo hBr hBV).drew
      have hBrd : Below wr.heap.size wr V.drew := hBV.drew
      have hq1 : 0 ≤ (q : Int) ∧ (q : Int) ≤ (ce : Int) := by omega
      refine wp_region_noPanic ?_
      refine wp_region_held_drew (S := fun W' => W'.heap[Y]? = some (.cells #[.string oe, .string op, .int .i64 om, .int .i64 og, .int .i64 ox, .int .i64 oj, .slice oA oan oac, .slice oB obn obc] 38)) (by kernel_rfl) GY.out (fun hHeld => ?_)
      refine wpAnyH_take (i := 0) (v := ?_) rfl (by kernel_rfl) (by kernel_rfl) (by kernel_rfl) (fun _ _ _ h => h) (Or.inl ⟨by kernel_rfl, ?_⟩) (by assumption) ?_
      rotate_left
      · intro w hSw
        (try dsimp only at hSw)
        go_simp
        first | done | with_reducible rfl
      simp only [List.getElem_toArray, List.getElem_cons_zero, List.getElem_cons_succ, Act.put, List.setIfInBounds_toArray, List.set_cons_zero, List.set_cons_succ]
      refine wpAnyH_take (i := 1) (v := ?_) rfl (by kernel_rfl) (by kernel_rfl) (by kernel_rfl) (fun _ _ _ h => h) (Or.inl ⟨by kernel_rfl, ?_⟩) (by assumption) ?_
      rotate_left
      · intro w hSw
        (try dsimp only at hSw)
        go_simp
        first | done | with_reducible rfl
      simp only [List.getElem_toArray, List.getElem_cons_zero, List.getElem_cons_succ, Act.put, List.setIfInBounds_toArray, List.set_cons_zero, List.set_cons_succ]
      refine wpAnyH_take (i := 2) (v := ?_) rfl (by kernel_rfl) (by kernel_rfl) (by kernel_rfl) (fun _ _ _ h => h) (Or.inl ⟨by kernel_rfl, ?_⟩) (by assumption) ?_
      rotate_left
      · intro w hSw
        (try dsimp only at hSw)
        go_simp
        first | done | with_reducible rfl
      simp only [List.getElem_toArray, List.getElem_cons_zero, List.getElem_cons_succ, Act.put, List.setIfInBounds_toArray, List.set_cons_zero, List.set_cons_succ]
      refine wpAnyH_take (i := 3) (v := ?_) rfl (by kernel_rfl) (by kernel_rfl) (by kernel_rfl) (fun _ _ _ h => h) (Or.inl ⟨by kernel_rfl, ?_⟩) (by assumption) ?_
      rotate_left
      · intro w hSw
        (try dsimp only at hSw)
        go_simp
        first | done | with_reducible rfl
      simp only [List.getElem_toArray, List.getElem_cons_zero, List.getElem_cons_succ, Act.put, List.setIfInBounds_toArray, List.set_cons_zero, List.set_cons_succ]
      refine wpAnyH_take (i := 4) (v := .slice (some ⟨eb, eo, none⟩) q ce) rfl (by kernel_rfl) (by kernel_rfl) (by kernel_rfl) (fun _ _ _ h => h) (Or.inl ⟨by kernel_rfl, ?_⟩) (by assumption) ?_
      · intro w hSw
        (try dsimp only at hSw)
        first | (go_simp; done) | (go_simp; rw [if_pos hq1])
      simp only [List.getElem_toArray, List.getElem_cons_zero, List.getElem_cons_succ, Act.put, List.setIfInBounds_toArray, List.set_cons_zero, List.set_cons_succ]
      refine wpAnyH_take (i := 5) (v := ?_) rfl (by kernel_rfl) (by kernel_rfl) (by kernel_rfl) (fun _ _ _ h => h) (Or.inl ⟨by kernel_rfl, ?_⟩) (by assumption) ?_
      rotate_left
      · intro w hSw
        (try dsimp only at hSw)
        have z0 : w.cell? ⟨Y, 0, none⟩ = some (.string oe) := by rw [Lib.cell_of_heap hSw]; rfl
        have z1 : w.cell? ⟨Y, 1, none⟩ = some (.string op) := by rw [Lib.cell_of_heap hSw]; rfl
        have z2 : w.cell? ⟨Y, 2, none⟩ = some (.int .i64 om) := by rw [Lib.cell_of_heap hSw]; rfl
        have z3 : w.cell? ⟨Y, 3, none⟩ = some (.int .i64 og) := by rw [Lib.cell_of_heap hSw]; rfl
        have z4 : w.cell? ⟨Y, 4, none⟩ = some (.int .i64 ox) := by rw [Lib.cell_of_heap hSw]; rfl
        have z5 : w.cell? ⟨Y, 5, none⟩ = some (.int .i64 oj) := by rw [Lib.cell_of_heap hSw]; rfl
        have z6 : w.cell? ⟨Y, 6, none⟩ = some (.slice oA oan oac) := by rw [Lib.cell_of_heap hSw]; rfl
        have z7 : w.cell? ⟨Y, 7, none⟩ = some (.slice oB obn obc) := by rw [Lib.cell_of_heap hSw]; rfl
        clear hSw
        go_simp
        first | done | with_reducible rfl
      simp only [List.getElem_toArray, List.getElem_cons_zero, List.getElem_cons_succ, Act.put, List.setIfInBounds_toArray, List.set_cons_zero, List.set_cons_succ]
      refine wpAnyH_ready (rs := [6]) (by kernel_rfl) (by simp) ?_
      refine AllReadyH.cons rfl (fun K hK => ?_) AllReadyH.nil
      simp only [List.getElem_toArray, List.getElem_cons_zero, List.getElem_cons_succ]
      go_simp
      (with_reducible refine (wrong29_any root h (some ⟨eb, eo, none⟩) ce q (es.take q) Htl.out oe op om og ox oj oA oB oac obc oan obn c p c1 c2 c3 tt Htt _ (Lib.hid rfl) okb Hok e0 He0 V.drew (hT.go hBVd) (hO.go hBVd) (HC.out.2.2.go hBrd) (HC.out.1.go hBrd) (HC.out.2.1.go hBrd) hwz.1 hwz.2 (by omega)).mono ?_)
      rintro e w5 ⟨rfl, hB5⟩
      dsimp only
      refine hK.out _ _ ((hB5.block _ hYl).trans GY.out) (fun hHeld => ?_)
      clear hK K
      try simp only [List.getElem_toArray, List.getElem_cons_zero, List.getElem_cons_succ, Act.put, List.setIfInBounds_toArray, List.set_cons_zero, List.set_cons_succ]
      refine wpAnyH_take (i := 7) (v := ?_) rfl (by kernel_rfl) (by kernel_rfl) (by kernel_rfl) (fun _ _ _ h => h) (Or.inl ⟨by kernel_rfl, ?_⟩) (by assumption) ?_
      rotate_left
      · intro w hSw
        (try dsimp only at hSw)
        go_simp
        first | done | with_reducible rfl
      simp only [List.getElem_toArray, List.getElem_cons_zero, List.getElem_cons_succ, Act.put, List.setIfInBounds_toArray, List.set_cons_zero, List.set_cons_succ]
      refine wpAnyH_done (by kernel_rfl) ?_ _
      dsimp only [NoPanic]
      clear hHeld
      have g5 := (hB5.block _ hYl).trans GY.out
      have hBr5 := bgo hBrd hB5
      have hBw5 := bgo hBr hBr5
      by_cases hz : e0 = 0
      · subst hz
        have hacc := Hacc.out
        rw [if_pos rfl] at hacc
        have hmap5 := ownsMap_below Hmap.out hBr5
        have hown5 := own_below Hown.out hBr5
        have y0 : w5.cell? ⟨Y, 0, none⟩ = some (.string oe) := by rw [Lib.cell_of_heap g5]; rfl
        have y1 : w5.cell? ⟨Y, 1, none⟩ = some (.string op) := by rw [Lib.cell_of_heap g5]; rfl
        have y2 : w5.cell? ⟨Y, 2, none⟩ = some (.int .i64 om) := by rw [Lib.cell_of_heap g5]; rfl
        have y3 : w5.cell? ⟨Y, 3, none⟩ = some (.int .i64 og) := by rw [Lib.cell_of_heap g5]; rfl
        have y4 : w5.cell? ⟨Y, 4, none⟩ = some (.int .i64 ox) := by rw [Lib.cell_of_heap g5]; rfl
        by_cases hin : (⟨oe, op, om, og, ox⟩ : TotD) ∈ acc
        · rw [if_pos hin] at hacc
          have hlook := lookT oe op om og ox hmap5 Hseen.out Hwf.out true (decide_eq_true hin)
          have Hx := Lib.hid (And.intro hacc (And.intro hmap5 hown5))
          clear hacc hmap5 hown5 hin
          go_wp2_with fail
          go_roundw
          case rel => exact ⟨q + 1, by omega, by go_num, acc, D, Hx.out.2.2, by omega, Hx.out.2.1.mono (by omega), Hseen.out, Hx.out.1, hBw5, by have := hBr5.size; omega⟩
          case measure => simp [intOf]; omega
        · rw [if_neg hin] at hacc
          have hlook := lookT oe op om og ox hmap5 Hseen.out Hwf.out false (decide_eq_false hin)
          have Hmap5 := Lib.hid hmap5
          have Hown5 := Lib.hid hown5
          have Hx := Lib.hid hacc
          clear hacc hmap5 hown5 hin
          have hY5 : Y < w5.heap.size := (Array.getElem?_eq_some_iff.1 g5).1
          go_wp2_with (first
            | (at_mapUpdate; refine wpList_mapUpdate_own _ rfl _ _ _ 56 rfl 25 4 lawT Tryd.underlying56 _ b q D rfl Hmap5.out (by unfold maxLen; omega) _ _ _ rfl rfl (keyOf_tot' oe op om og ox Hwf.out) _ [] (plainElem_bool Tryd.underlying4 true) ?_; intro w6 hmap6 hgrow6; have g6 := (hgrow6.block Y hY5 (fun e => hYb (Option.some.inj e))).trans g5; have a0 : w6.cell? ⟨Y, 0, none⟩ = some (.string oe) := (by rw [Lib.cell_of_heap g6]; rfl); have a1 : w6.cell? ⟨Y, 1, none⟩ = some (.string op) := (by rw [Lib.cell_of_heap g6]; rfl); have a2 : w6.cell? ⟨Y, 2, none⟩ = some (.int .i64 om) := (by rw [Lib.cell_of_heap g6]; rfl); have a3 : w6.cell? ⟨Y, 3, none⟩ = some (.int .i64 og) := (by rw [Lib.cell_of_heap g6]; rfl); have a4 : w6.cell? ⟨Y, 4, none⟩ = some (.int .i64 ox) := (by rw [Lib.cell_of_heap g6]; rfl); have hB6 : Below w.heap.size w w6 := hBw5.grown hgrow6 hBw5.size (fun j hj => (by cases hj; exact hbw)); have own6 := own_keep Hown5.out (fun g hg => hgrow6.block g (own_far' Hown5.out hg).2 (fun e => (by injection e with e; have := (own_far' Hown5.out hg).1; omega))); have hb6 : b < w6.heap.size := Nat.lt_of_lt_of_le (Nat.lt_of_lt_of_le hbr hBr5.size) hgrow6.size)
            | (at_builtin; refine app_src2 (w0 := w) (b + 1) (by omega) ?c0 rfl _ _ 32 rfl 25 j0 _ 5 56 Tryd.underlying32 hj0 hy0 hy1 hy2 rfl (by decide) u8 acc.length (acc.flatMap totL5) rfl (own6.alloc _) (bal hB6 _) (.slice (some ⟨w6.heap.size, 0, none⟩) 1 1) 1 [.string oe, .string op, .int .i64 om, .int .i64 og, .int .i64 ox] rfl (block_src w6 [.string oe, .string op, .int .i64 om, .int .i64 og, .int .i64 ox] _ _ 1 1 5 rfl) (by simp [Value.oneCell']) (by unfold maxLen; omega) (by omega) ?_)
            | go_in)
          case c0 => first | omega | (simp; omega) | (rw [World.size_alloc]; omega)
          intro v7 w7 own7 bel7 kept7
          have hba := bal (Below.refl w6.heap.size w6) (.cells #[.string oe, .string op, .int .i64 om, .int .i64 og, .int .i64 ox] 25)
          have hb7 := (kept7.2 b (by simp; omega) (fun e => by have := (own_far' own6 e).1; omega)).trans (hba.block b hb6)
          have hmap7 := ownsMap_block hmap6 hb7
          have hs7 : b < w7.heap.size := Nat.lt_of_lt_of_le hb6 (Nat.le_trans hba.size kept7.1)
          have Hy := Lib.hid (And.intro hmap7 (And.intro own7 bel7))
          have hse := Hseen.out.put Hmap5.out.isMap Hwf.out
          clear own7 bel7 hmap7 hmap6 hgrow6 own6 hlook kept7 hba hb7
          go_wp2_with fail
          go_roundw
          case rel => exact ⟨q + 1, by omega, by go_num, acc ++ [⟨oe, op, om, og, ox⟩], _, by (have h := Hy.out.2.1; rw [List.flatMap_append, List.length_append]; exact h), by simp; omega, Hy.out.1, hse, Hx.out, Hy.out.2.2, hs7⟩
          case measure => simp [intOf]; omega
      · have hacc := Hacc.out
        rw [if_neg hz] at hacc
        have hzb : (e0 != 0) = true := bne_iff_ne.2 hz
        injection hacc with h1 h2
        subst h1
        subst h2
        clear hz
        go_wp2_with fail
        go_ret2
        exact ⟨_, rfl, ⟨rfl, .inl ⟨rfl, rfl⟩⟩, hBw5⟩
    · obtain rfl : q = k := by omega
      have hfin : acc = T ∧ (0 : Int) = r := by
        rw [List.drop_of_length_le (by rw [Hk.out]; omega)] at hacc
        unfold accE at hacc
        injection hacc with h1 h2
        exact ⟨h2, h1⟩
      obtain ⟨h1, h2⟩ := hfin
      subst h1
      subst h2
      go_wp2
      go_ret2
      exact ⟨_, rfl, own_mono hown (by omega), hBr⟩
end Go.Proofs.YtpmakhfpdidleaaDoor
namespace Go.Rng
variable {n : Nat} {P : Program} {ops : Array Oper} {Q : Exit → Act → World → Prop} {md : Region.Mode} {S : World → Prop}
/-- One operation in the wide fence. -/
theorem one_if {i : Nat} {o : Oper} {v : Value} {a : Act} (hi : ops[i]? = some o) (hy : YieldsIf P ops S o v a) {K : Act → World → Prop} {w : World} (hS : S w) (h : K (a.put o.dst v) w) : wpOpIn Fence.wide n P ops Q i K a w := by
  unfold wpOpIn
  rw [hi]
  dsimp only
  cases hy with
  | inl hv =>
    rw [if_pos hv.1]
    refine ⟨fun _ _ => trivial, ?_⟩
    show o.uponIn Fence.wide n P a K Q ((o.semAt none a.eval).run P w)
    rw [Oper.semAt_none, hv.2 w hS]
    exact h
  | inr hv =>
    rw [if_neg (by rw [hv.1]; exact Bool.false_ne_true)]
    exact ⟨fun _ _ => trivial, by rw [← hv.2]; exact h⟩
/-- Another operation, apart from it, may come before. -/
theorem other_if {j : Nat} {oi oj : Oper} {v : Value} (hj : ops[j]? = some oj) (hap : oi.apart ops oj = true) (hsi : ∀ cs b, oi.op ≠ .select cs b) (hsj : ∀ cs b, oj.op ≠ .select cs b)
    (hQ : ∀ c a w, Q (.panic c) (a.put oi.dst v) w → Q (.panic c) a w) {K : Act → World → Prop} {a : Act} {w : World} (hy : YieldsIf P ops S oi v a) (h : wpOpIn Fence.wide n P ops Q j K (a.put oi.dst v) w) :
    wpOpIn Fence.wide n P ops Q j (fun a' w' => YieldsIf P ops S oi v a' ∧ K (a'.put oi.dst v) w') a w := by
  obtain ⟨h1, h2, h3⟩ := Oper.apart_spec hap
  have still : ∀ (b : Act), YieldsIf P ops S oi v b → ∀ u, YieldsIf P ops S oi v (b.put oj.dst u) := fun b hb u => hb.of_same (execOp_put oi hsi b oj.dst u h3) (wanted_put oi b oj.dst u h3)
  unfold wpOpIn at h ⊢
  rw [hj] at h ⊢
  dsimp only at h ⊢
  rw [wanted_put oj a oi.dst v h1] at h
  by_cases hw : Region.wanted oj (yielded ops a.tmps) = true
  · rw [if_pos hw] at h ⊢
    refine ⟨fun _ _ => trivial, ?_⟩
    have h' : oj.uponIn Fence.wide n P (a.put oi.dst v) K Q ((oj.semAt none (a.put oi.dst v).eval).run P w) := h.2
    show oj.uponIn Fence.wide n P a _ Q ((oj.semAt none a.eval).run P w)
    rw [Oper.semAt_none, execOp_put oj hsj a oi.dst v h1] at h'
    rw [Oper.semAt_none]
    revert h'
    generalize (execOp a.eval oj).run P w = r
    intro h'
    have back : ∀ e w'', (match e, w'' with
      | Ending.returned u, w'' => K ((a.put oi.dst v).put oj.dst u) w''
      | Ending.panicked chain, w'' => Q (.panic chain) (a.put oi.dst v) w''
      | Ending.outgrown, _ => LetsOut Q) → (match e, w'' with
      | Ending.returned u, w'' => (fun a' w' => YieldsIf P ops S oi v a' ∧ K (a'.put oi.dst v) w') (a.put oj.dst u) w''
      | Ending.panicked chain, w'' => Q (.panic chain) a w''
      | Ending.outgrown, _ => LetsOut Q) := by
      intro e w'' he
      cases e with
      | returned u => exact ⟨still a hy u, by rw [← Act.put_comm a v u h2]; exact he⟩
      | panicked c => exact hQ _ _ _ he
      | outgrown => exact he
    cases r with
    | ok x w' =>
      cases x <;> simp only [Oper.uponIn] at h' ⊢
      case value u => exact ⟨still a hy u, by rw [← Act.put_comm a v u h2]; exact h'⟩
      case skip => exact ⟨still a hy _, by rw [← Act.put_comm a v undef h2]; exact h'⟩
      case defer d =>
        have hyd : YieldsIf P ops S oi v { a with defers := d :: a.defers } := hy.of_same rfl rfl
        refine ⟨still _ hyd _, ?_⟩
        rw [← Act.put_comm _ v undef h2, ← Act.put_defers]
        exact h'
      case enter f args => exact ⟨h'.1, CallsIn.mono h'.2 back⟩
      case row r args => exact ⟨h'.1, RowsIn.mono h'.2 fun u w'' he => ⟨still a hy u, by rw [← Act.put_comm a v u h2]; exact he⟩⟩
      case round l f t ar bd => exact ⟨h'.1, RoundIn.mono h'.2 back⟩
    | halt x w' =>
      cases x <;> simp only [Oper.uponIn] at h' ⊢
      case panic u => exact hQ _ _ _ h'
  · rw [if_neg hw] at h ⊢
    exact ⟨fun _ _ => trivial, still a hy _, by rw [← Act.put_comm a v undef h2]; exact h.2⟩
/-- Whatever order is drawn from here on, and S holds behind each operation. -/
def anyHeld (n : Nat) (P : Program) (md : Region.Mode) (ops : Array Oper) (Q : Exit → Act → World → Prop) (S : World → Prop) : Nat → Array Bool → Act → World → Prop
  | 0, listed, a, w => Region.ready md ops listed = [] ∧ Q .normal a w
  | fuel + 1, listed, a, w => (Region.ready md ops listed = [] → Q .normal a w) ∧ ∀ i ∈ Region.ready md ops listed, wpOpIn Fence.wide n P ops Q i (fun a' w' => S w' ∧ anyHeld n P md ops Q S fuel (listed.setIfInBounds i true) a' w') a w
theorem any_of_held : ∀ (fuel : Nat) (listed : Array Bool) (a : Act) (w : World), anyHeld n P md ops Q S fuel listed a w → wpAnyIn Fence.wide n P md ops Q fuel listed a w
  | 0, _, _, _, h => h
  | fuel + 1, _, _, _, h => ⟨h.1, fun i hi => wpOpIn_mono (fun a' w' h' => any_of_held fuel _ a' w' h'.2) (h.2 i hi)⟩
theorem held_first {i : Nat} {oi : Oper} {v : Value} (hi : ops[i]? = some oi) (hsel : ∀ (j : Nat) (o : Oper) cs b, ops[j]? = some o → o.op ≠ .select cs b) (hQ : ∀ c a w, Q (.panic c) (a.put oi.dst v) w → Q (.panic c) a w) :
    ∀ (fuel : Nat) (listed : Array Bool) (a : Act) (w : World), (∀ j oj, ops[j]? = some oj → j ≠ i → listed.getD j true = false → (∀ e ∈ oj.after, Region.binds md e = true → e.on ≠ i) → oi.apart ops oj = true) →
      i ∈ Region.ready md ops listed → YieldsIf P ops S oi v a → S w → anyHeld n P md ops Q S fuel (listed.setIfInBounds i true) (a.put oi.dst v) w → anyHeld n P md ops Q S (fuel + 1) listed a w
  | fuel, listed, a, w, hfree, hr, hy, hS, H => by
    refine ⟨fun h => absurd hr (by rw [h]; exact List.not_mem_nil), fun j hj => ?_⟩
    by_cases hji : j = i
    · rw [hji]
      exact one_if hi hy hS ⟨hS, H⟩
    · obtain ⟨hjun, oj, hoj, hall⟩ := mem_ready.1 hj
      have hri : listed.getD i true = false := (mem_ready.1 hr).1
      have hlt : i < listed.size := by
        rcases Nat.lt_or_ge i listed.size with h | h
        · exact h
        · rw [Array.getD_eq_getD_getElem?, Array.getElem?_eq_none h] at hri
          cases hri
      have hnot : ∀ e ∈ oj.after, Region.binds md e = true → e.on ≠ i := by
        intro e he hb heq
        have hx := hall e he hb
        rw [heq] at hx
        rw [Array.getD_eq_getD_getElem?, Array.getElem?_eq_getElem hlt] at hri hx
        simp only [Option.getD_some] at hri hx
        rw [hri] at hx
        cases hx
      cases fuel with
      | zero =>
        have hj' := ready_mono hj hji
        rw [H.1] at hj'
        cases hj'
      | succ fuel =>
        have h2 := other_if hoj (hfree j oj hoj hji hjun hnot) (fun cs b => hsel i oi cs b hi) (fun cs b => hsel j oj cs b hoj) hQ hy (H.2 j (ready_mono hj hji))
        refine wpOpIn_mono ?_ h2
        rintro a' w' ⟨hy', hS', h3⟩
        refine ⟨hS', held_first hi hsel hQ fuel (listed.setIfInBounds j true) a' w' ?_ (ready_mono hr (Ne.symm hji)) hy' hS' ?_⟩
        · intro k ok hk hki hun hno
          refine hfree k ok hk hki ?_ hno
          by_cases hjk : j = k
          · rw [← hjk]; exact hjun
          · rwa [getD_set_ne true hjk] at hun
        · rw [Array.setIfInBounds_comm _ _ hji]
          exact h3
theorem held_take {i : Nat} {oi : Oper} {v : Value} {fuel : Nat} {listed : Array Bool} {a : Act} {w : World} (hi : ops[i]? = some oi) (hs : Region.noSelect ops = true) (hf : Region.free md ops listed i = true) (hr : (Region.ready md ops listed).contains i = true)
    (hQ : ∀ c a w, Q (.panic c) (a.put oi.dst v) w → Q (.panic c) a w) (hy : YieldsIf P ops S oi v a) (hS : S w) (h : anyHeld n P md ops Q S fuel (listed.setIfInBounds i true) (a.put oi.dst v) w) : anyHeld n P md ops Q S (fuel + 1) listed a w :=
  held_first hi (Region.noSelect_spec hs) hQ fuel listed a w (Region.free_spec hi hf) (by simpa using hr) hy hS h
/-- Each of the operations that may come up. -/
def allHeld (n : Nat) (P : Program) (md : Region.Mode) (ops : Array Oper) (Q : Exit → Act → World → Prop) (S : World → Prop) (fuel : Nat) (listed : Array Bool) (a : Act) (w : World) (rs : List Nat) : Prop :=
  ∀ i ∈ rs, wpOpIn Fence.wide n P ops Q i (fun a' w' => S w' ∧ anyHeld n P md ops Q S fuel (listed.setIfInBounds i true) a' w') a w
theorem allHeld.nil {fuel : Nat} {listed : Array Bool} {a : Act} {w : World} : allHeld n P md ops Q S fuel listed a w [] := fun _ h => by cases h
theorem allHeld.cons {fuel : Nat} {listed : Array Bool} {a : Act} {w : World} {i : Nat} {o : Oper} {rs : List Nat} (ho : ops[i]? = some o)
    (h : ∀ K' : Act → World → Prop, Shut (∀ a w, S w → (S w → anyHeld n P md ops Q S fuel (listed.setIfInBounds i true) a w) → K' a w) → if Region.wanted o (yielded ops a.tmps) = true then Oper.wpIn Fence.wide n P o a w K' Q else K' (a.put o.dst undef) w)
    (hs : allHeld n P md ops Q S fuel listed a w rs) : allHeld n P md ops Q S fuel listed a w (i :: rs) := fun j hj => by
  rcases List.mem_cons.1 hj with hji | hj
  · rw [hji]
    have hk := h (fun a' w' => S w' ∧ anyHeld n P md ops Q S fuel (listed.setIfInBounds i true) a' w') (fun a w hS hW => ⟨hS, hW hS⟩)
    unfold wpOpIn
    rw [ho]
    dsimp only
    by_cases hw : Region.wanted o (yielded ops a.tmps) = true
    · rw [if_pos hw] at hk ⊢; exact hk
    · rw [if_neg hw] at hk ⊢; exact ⟨fun _ _ => trivial, hk⟩
  · exact hs j hj
theorem held_ready {rs : List Nat} {fuel : Nat} {listed : Array Bool} {a : Act} {w : World} (hr : Region.ready md ops listed = rs) (hne : rs ≠ []) (h : allHeld n P md ops Q S fuel listed a w rs) : anyHeld n P md ops Q S (fuel + 1) listed a w :=
  ⟨fun h0 => absurd (hr ▸ h0) hne, hr ▸ h⟩
theorem held_done {listed : Array Bool} {a : Act} {w : World} (hr : Region.ready md ops listed = []) (h : Q .normal a w) : ∀ fuel, anyHeld n P md ops Q S fuel listed a w
  | 0 => ⟨hr, h⟩
  | _ + 1 => ⟨fun _ => h, by rw [hr]; simp⟩
theorem region_held_in {id : Nat} {a : Act} {w : World} (hm : P.follows .mixedOrders = true) (hS : S w.drew) (h : S w.drew → anyHeld n P .any ops Q S ops.size (Array.replicate ops.size false) a w.drew) : (Code.region id ops true).wpIn Fence.wide n P Q a w :=
  wpIn_region_any hm (any_of_held _ _ _ _ (h hS))
end Go.Rng
