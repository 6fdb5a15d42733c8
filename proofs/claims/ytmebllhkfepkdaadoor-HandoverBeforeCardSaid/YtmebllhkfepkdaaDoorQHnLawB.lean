/- The walk of HandoverBefore. -/
import Derived.Test.YtmebllhkfepkdaaDoorQ25
import Derived.Deep.DeepCutAuto
import Derived.Deep.CutBlock
import Derived.IntWalk
namespace Go.Proofs.YtmebllhkfepkdaaDoor
open Go.RowKit Go.Shelf
set_option linter.unusedVariables false
set_option linter.unusedSimpArgs false
set_option maxRecDepth 100000
def mk20 : Array Value := #[.string ⟨#[]⟩, .string ⟨#[]⟩, .int .i64 0, .int .i64 0, .int .i64 0, .string ⟨#[]⟩, .string ⟨#[]⟩, .int .i64 0, .int .i64 0, .int .i64 0, .string ⟨#[]⟩, .string ⟨#[]⟩, .int .i64 0, .int .i64 0, .int .i64 0, .string ⟨#[]⟩, .string ⟨#[]⟩, .int .i64 0, .int .i64 0, .int .i64 0, .string ⟨#[]⟩, .string ⟨#[]⟩, .int .i64 0, .int .i64 0, .int .i64 0, .string ⟨#[]⟩, .string ⟨#[]⟩, .int .i64 0, .int .i64 0, .int .i64 0, .string ⟨#[]⟩, .string ⟨#[]⟩, .int .i64 0, .int .i64 0, .int .i64 0, .string ⟨#[]⟩, .string ⟨#[]⟩, .int .i64 0, .int .i64 0, .int .i64 0, .string ⟨#[]⟩, .string ⟨#[]⟩, .int .i64 0, .int .i64 0, .int .i64 0, .string ⟨#[]⟩, .string ⟨#[]⟩, .int .i64 0, .int .i64 0, .int .i64 0, .string ⟨#[]⟩, .string ⟨#[]⟩, .int .i64 0, .int .i64 0, .int .i64 0, .string ⟨#[]⟩, .string ⟨#[]⟩, .int .i64 0, .int .i64 0, .int .i64 0, .string ⟨#[]⟩, .string ⟨#[]⟩, .int .i64 0, .int .i64 0, .int .i64 0, .string ⟨#[]⟩, .string ⟨#[]⟩, .int .i64 0, .int .i64 0, .int .i64 0, .string ⟨#[]⟩, .string ⟨#[]⟩, .int .i64 0, .int .i64 0, .int .i64 0, .string ⟨#[]⟩, .string ⟨#[]⟩, .int .i64 0, .int .i64 0, .int .i64 0, .string ⟨#[]⟩, .string ⟨#[]⟩, .int .i64 0, .int .i64 0, .int .i64 0, .string ⟨#[]⟩, .string ⟨#[]⟩, .int .i64 0, .int .i64 0, .int .i64 0, .string ⟨#[]⟩, .string ⟨#[]⟩, .int .i64 0, .int .i64 0, .int .i64 0, .string ⟨#[]⟩, .string ⟨#[]⟩, .int .i64 0, .int .i64 0, .int .i64 0]
def mk21 : Array Value := #[.string ⟨#[]⟩, .string ⟨#[]⟩, .int .i64 0, .int .i64 0, .int .i64 0, .string ⟨#[]⟩, .string ⟨#[]⟩, .int .i64 0, .int .i64 0, .int .i64 0, .string ⟨#[]⟩, .string ⟨#[]⟩, .int .i64 0, .int .i64 0, .int .i64 0, .string ⟨#[]⟩, .string ⟨#[]⟩, .int .i64 0, .int .i64 0, .int .i64 0, .string ⟨#[]⟩, .string ⟨#[]⟩, .int .i64 0, .int .i64 0, .int .i64 0, .string ⟨#[]⟩, .string ⟨#[]⟩, .int .i64 0, .int .i64 0, .int .i64 0, .string ⟨#[]⟩, .string ⟨#[]⟩, .int .i64 0, .int .i64 0, .int .i64 0, .string ⟨#[]⟩, .string ⟨#[]⟩, .int .i64 0, .int .i64 0, .int .i64 0, .string ⟨#[]⟩, .string ⟨#[]⟩, .int .i64 0, .int .i64 0, .int .i64 0, .string ⟨#[]⟩, .string ⟨#[]⟩, .int .i64 0, .int .i64 0, .int .i64 0, .string ⟨#[]⟩, .string ⟨#[]⟩, .int .i64 0, .int .i64 0, .int .i64 0, .string ⟨#[]⟩, .string ⟨#[]⟩, .int .i64 0, .int .i64 0, .int .i64 0, .string ⟨#[]⟩, .string ⟨#[]⟩, .int .i64 0, .int .i64 0, .int .i64 0, .string ⟨#[]⟩, .string ⟨#[]⟩, .int .i64 0, .int .i64 0, .int .i64 0, .string ⟨#[]⟩, .string ⟨#[]⟩, .int .i64 0, .int .i64 0, .int .i64 0, .string ⟨#[]⟩, .string ⟨#[]⟩, .int .i64 0, .int .i64 0, .int .i64 0, .string ⟨#[]⟩, .string ⟨#[]⟩, .int .i64 0, .int .i64 0, .int .i64 0, .string ⟨#[]⟩, .string ⟨#[]⟩, .int .i64 0, .int .i64 0, .int .i64 0, .string ⟨#[]⟩, .string ⟨#[]⟩, .int .i64 0, .int .i64 0, .int .i64 0, .string ⟨#[]⟩, .string ⟨#[]⟩, .int .i64 0, .int .i64 0, .int .i64 0, .string ⟨#[]⟩, .string ⟨#[]⟩, .int .i64 0, .int .i64 0, .int .i64 0]
theorem tots_one (l : List TotD) : ∀ u ∈ l.flatMap totL5, u.oneCell' = true := by
  intro u hu
  obtain ⟨t, _, h⟩ := List.mem_flatMap.1 hu
  simp only [totL5, List.mem_cons, List.not_mem_nil, or_false] at h
  rcases h with h | h | h | h | h <;> · subst h; rfl
theorem lit_eq {s : ByteArray} {l : List UInt8} (h : s = ⟨l.toArray⟩) : s.toList = l := by rw [h, ByteArray.toList_eq]
theorem lit_ne {s : ByteArray} {l : List UInt8} (h : ¬ s = ⟨l.toArray⟩) : ¬ s.toList = l := by
  intro e
  rw [ByteArray.toList_eq] at e
  exact h (bytes_eq e)
/-- The facts on the list of totals. -/
structure LstB (T : List TotD) (N : Nat) : Prop where
  len : T.length = N
  va : ∀ t ∈ T, validTB t = true
  ap : T.Pairwise ApartT
theorem LstB.sz {T : List TotD} {N : Nat} (h : LstB T N) : ∀ t ∈ T, t.e.size ≤ maxLen ∧ t.p.size ≤ maxLen := fun t ht => valid_sz (h.va t ht)
def fewL (mo : Int) (T : List TotD) : List TotD := T.filter (cntB ⟨#[97, 110, 110]⟩ mo)
def othL (mo : Int) (T : List TotD) : List TotD := (fewL mo T).filter fun u => decide (¬ u.e = ⟨#[97, 99, 109, 101]⟩)
theorem few_succ {mo : Int} {T : List TotD} {k : Nat} {t : TotD} (h : T[k]? = some t) : fewL mo (T.take (k + 1)) = fewL mo (T.take k) ++ (if cntB ⟨#[97, 110, 110]⟩ mo t = true then [t] else []) := by
  unfold fewL
  rw [List.take_add_one, h, Option.toList_some, List.filter_append, List.filter_cons, List.filter_nil]
theorem oth_succ {mo : Int} {T : List TotD} {k : Nat} {t : TotD} (h : T[k]? = some t) : othL mo (T.take (k + 1)) = othL mo (T.take k) ++ (if cntB ⟨#[97, 110, 110]⟩ mo t = true then (if ¬ t.e = ⟨#[97, 99, 109, 101]⟩ then [t] else []) else []) := by
  unfold othL
  rw [few_succ h, List.filter_append]
  split <;> simp [List.filter_cons]
theorem few_len (mo : Int) (T : List TotD) : (fewL mo T).length ≤ T.length := List.length_filter_le _ _
theorem oth_len (mo : Int) (T : List TotD) : (othL mo T).length ≤ T.length := Nat.le_trans (List.length_filter_le _ _) (few_len mo T)
theorem cnt_mk {mo : Int} {te tp : ByteArray} {tm tg tx : Int} (hv : validTB ⟨te, tp, tm, tg, tx⟩ = true) : cntB ⟨#[97, 110, 110]⟩ mo ⟨te, tp, tm, tg, tx⟩ = (decide (tp = ⟨#[97, 110, 110]⟩) && decide (tm < mo) && decide (tm / 12 = mo / 12)) := by
  unfold cntB
  rw [hv, Bool.true_and]
/-- The sums that the law compares. -/
structure SumB (T : List TotD) (mo : Int) (a b x y : Int) : Prop where
  ha : sumA TotD.g (befT ⟨#[97, 110, 110]⟩ mo T) = a
  hb : sumA TotD.x (befT ⟨#[97, 110, 110]⟩ mo T) = b
  hx : sumA TotD.g (befT ⟨#[97, 110, 110]⟩ mo (othL mo T)) = x
  hy : sumA TotD.x (befT ⟨#[97, 110, 110]⟩ mo (othL mo T)) = y
theorem oth_bef (mo : Int) (T : List TotD) : (othL mo T).filter (cntB ⟨#[97, 110, 110]⟩ mo) = othL mo T := by
  rw [List.filter_eq_self]
  intro u hu
  exact (List.mem_filter.1 (List.mem_filter.1 hu).1).2
theorem bef_few_ (p : ByteArray) (m : Int) (T : List TotD) : befT p m (T.filter (cntB p m)) = befT p m T := by
  unfold befT
  rw [List.filter_filter]
  congr 1
  exact List.filter_congr fun x _ => by rw [Bool.and_self]
theorem src_blk {W : World} {g size m c : Nat} {cs : List Value} {te : TypeId} {fr : Nat × Nat} (h : W.heap[g]? = some (.cells cs.toArray te fr)) (hl : cs.length = m * size) : Src W size (.slice (some ⟨g, 0, none⟩) m c) m cs :=
  .inr ⟨_, _, rfl, hl, fun j u hu => World.news_of_block (cs := cs.toArray) (t := te) (fr := fr) h j u (by simpa using hu)⟩
theorem OwnApart.app2 {u v v' : Value} {W : World} {base : Nat} {e : TypeId} {size n : Nat} {xs : List Value} (h : OwnApart u v) (hw : v'.ownBlock = v.ownBlock ∨ v'.ownBlock = some (W.heap.size + 1)) (hu : W.ownsRow base e size u n xs) : OwnApart u v' := by
  intro g hg hv
  rcases hw with k | k
  · exact h g hg (k.symm.trans hv)
  · rw [k] at hv
    injection hv with hv
    have := (own_far' hu hg).2
    omega
theorem bef_mem {p : ByteArray} {m : Int} {T : List TotD} {u : TotD} (h : u ∈ befT p m T) : u ∈ T := by
  rcases lateL_mem _ [] h with h | h
  · exact (List.mem_filter.1 h).1
  · cases h
theorem bef_len (p : ByteArray) (m : Int) (T : List TotD) : (befT p m T).length ≤ T.length := by
  have := lateL_len (T.filter (cntB p m)) []
  have h2 := List.length_filter_le (cntB p m) T
  unfold befT lateL
  simp at this
  omega
theorem bef_bound {T : List TotD} (hv : ∀ t ∈ T, validTB t = true) (hl : T.length ≤ 21) (p : ByteArray) (m : Int) : (-21000000000000 ≤ sumA TotD.g (befT p m T) ∧ sumA TotD.g (befT p m T) ≤ 21000000000000) ∧ (-21000000000000 ≤ sumA TotD.x (befT p m T) ∧ sumA TotD.x (befT p m T) ≤ 21000000000000) := by
  have hb := bef_len p m T
  have h1 := sumA_bound TotD.g (l := befT p m T) (B := 1000000000000) (fun t ht => by have := (valid_out (hv t (bef_mem ht))).2.2.2; omega) 21 (by omega) (by omega)
  have h2 := sumA_bound TotD.x (l := befT p m T) (B := 1000000000000) (fun t ht => by have := (valid_out (hv t (bef_mem ht))).2.2.2; omega) 21 (by omega) (by omega)
  omega
/-- What the law's list is at the end. -/
theorem last_sum {T : List TotD} {N : Nat} (h : LstB T N) (mo : Int) (g x : Int) (hv : validTB ⟨⟨#[97, 99, 109, 101]⟩, ⟨#[97, 110, 110]⟩, mo - 1, g, x⟩ = true) (h12 : ¬ mo % 12 = 0) :
    sumA TotD.g (befT ⟨#[97, 110, 110]⟩ mo (T ++ [⟨⟨#[97, 99, 109, 101]⟩, ⟨#[97, 110, 110]⟩, mo - 1, g, x⟩])) = sumA TotD.g (befT ⟨#[97, 110, 110]⟩ mo (othL mo T)) + g ∧ sumA TotD.x (befT ⟨#[97, 110, 110]⟩ mo (T ++ [⟨⟨#[97, 99, 109, 101]⟩, ⟨#[97, 110, 110]⟩, mo - 1, g, x⟩])) = sumA TotD.x (befT ⟨#[97, 110, 110]⟩ mo (othL mo T)) + x := by
  have hc : cntB ⟨#[97, 110, 110]⟩ mo ⟨⟨#[97, 99, 109, 101]⟩, ⟨#[97, 110, 110]⟩, mo - 1, g, x⟩ = true := by
    rw [cnt_mk hv, decide_eq_true rfl, decide_eq_true (show mo - 1 < mo by omega), decide_eq_true (show (mo - 1) / 12 = mo / 12 by omega)]
    rfl
  exact ⟨bef_last TotD.g ⟨#[97, 110, 110]⟩ mo _ hc rfl h.ap, bef_last TotD.x ⟨#[97, 110, 110]⟩ mo _ hc rfl h.ap⟩
set_option maxHeartbeats 16000000 in
theorem handoverBefore_walk (A0 : Option Addr) (c0 : Nat) (qs : List Quad) (month byi gross tax : Int) (w : World) (S0 : Sl w w.heap.size 4 A0 qs.length (qs.flatMap quadV)) (l0 : qs.length ≤ c0 ∧ c0 ≤ maxLen) (e0 : ∀ q ∈ qs, QuadOk q)
    (wm : (Lit.int .i64 month).wf = true) (wb : (Lit.int .i64 byi).wf = true) (wg : (Lit.int .i64 gross).wf = true) (wt : (Lit.int .i64 tax).wf = true) (hT : Tabs w) :
    Calls Tryd.prog 7 #[.slice A0 qs.length c0, .int .i64 month, .int .i64 byi, .int .i64 gross, .int .i64 tax] w fun e w' => e = .returned (.bool true) ∧ Below w.heap.size w w' := by
  replace wm : I64 month := bounds_i64 wm
  replace wb : I64 byi := bounds_i64 wb
  replace wg : I64 gross := bounds_i64 wg
  replace wt : I64 tax := bounds_i64 wt
  obtain ⟨j0, hj0, hy0, hy1, hy2⟩ := info_parts info_tot
  obtain ⟨n0, hn0⟩ : ∃ n, n = qs.length := ⟨_, rfl⟩
  have hn0l : n0 ≤ maxLen := by rw [hn0]; exact Nat.le_trans l0.1 l0.2
  rw [← hn0] at S0 ⊢
  have Hn0 := Lib.hid hn0.symm
  have HS0 := Lib.hid S0
  have He0 := Lib.hid e0
  have HT := Lib.hid hT
  have Hn0l := Lib.hid hn0l
  obtain ⟨T, hTd⟩ : ∃ T, distT (madeL qs) = T := ⟨_, rfl⟩
  obtain ⟨N, hN⟩ : ∃ N, T.length = N := ⟨_, rfl⟩
  have hN20 : N ≤ 20 := by rw [← hN, ← hTd]; exact Nat.le_trans (distT_len _) (madeL_len qs)
  have hLst : LstB T N := ⟨hN, by rw [← hTd]; exact fun t ht => madeL_valid qs t (distT_mem ht), by rw [← hTd]; exact distT_apart _⟩
  have HL := Lib.hid hLst
  have HTd := Lib.hid hTd
  have HN := Lib.hid hN
  obtain ⟨pm, hpm⟩ : ∃ q, pickF month 42 = q := ⟨_, rfl⟩
  have hpb := pickF_lt month 42 (by omega)
  rw [hpm] at hpb
  obtain ⟨mo, hmo⟩ : ∃ q : Nat, 270 + pm = (q : Int) := ⟨(270 + pm).toNat, by omega⟩
  have hmo1 : 270 ≤ mo ∧ mo ≤ 311 := by omega
  have Hpm := Lib.hid hpm
  obtain ⟨k, hk⟩ : ∃ k : Nat, pickF byi ((N : Int) + 1) = (k : Int) := ⟨(pickF byi ((N : Int) + 1)).toNat, by have := pickF_lt byi ((N : Int) + 1) (by omega); omega⟩
  have hkN : k ≤ N := by have := pickF_lt byi ((N : Int) + 1) (by omega); omega
  have Hk := Lib.hid hk
  obtain ⟨a, ha⟩ : ∃ a, sumA TotD.g (befT ⟨#[97, 110, 110]⟩ (mo : Int) T) = a := ⟨_, rfl⟩
  obtain ⟨b, hb⟩ : ∃ a, sumA TotD.x (befT ⟨#[97, 110, 110]⟩ (mo : Int) T) = a := ⟨_, rfl⟩
  obtain ⟨x, hx⟩ : ∃ a, sumA TotD.g (befT ⟨#[97, 110, 110]⟩ (mo : Int) (othL mo T)) = a := ⟨_, rfl⟩
  obtain ⟨y, hy⟩ : ∃ a, sumA TotD.x (befT ⟨#[97, 110, 110]⟩ (mo : Int) (othL mo T)) = a := ⟨_, rfl⟩
  have hxy : (-21000000000000 ≤ x ∧ x ≤ 21000000000000) ∧ (-21000000000000 ≤ y ∧ y ≤ 21000000000000) := by
    rw [← hx, ← hy]
    exact bef_bound (T := othL (mo : Int) T) (fun t ht => hLst.va t (List.mem_filter.1 (List.mem_filter.1 ht).1).1) (by have := oth_len (mo : Int) T; rw [hN] at this; omega) _ _
  have HB := Lib.hid (SumB.mk ha hb hx hy)
  clear hn0 S0 e0 hT hTd hN hLst hpm hk ha hb hx hy hn0l l0
  go_enter Tryd.func7, Tryd.ntmps7
  go_wp2_with fail
  refine (head29_any w HT.out.1 HT.out.2).mono ?_
  rintro e w1 ⟨rfl, hB1⟩
  have H1 := Lib.hid hB1
  clear hB1
  go_wp2_with fail
  refine (mlist_any A0 n0 c0 qs Hn0.out Hn0l.out He0.out w1 (HS0.out.go H1.out)).mono ?_
  rintro e w2 ⟨v1, rfl, own1, hB2⟩
  obtain ⟨A1, c1, rfl, sl1, cp1, cp2⟩ := own_slice2 own1
  have H2 := Lib.hid (And.intro (bgo H1.out hB2) sl1)
  clear own1 hB2 sl1 cp1 cp2
  go_wp2_with fail
  refine (dist_any A1 _ c1 (madeL qs) rfl (Nat.le_trans (madeL_len qs) (by decide)) w2 H2.out.2).mono ?_
  rintro e w3 ⟨v2, rfl, own2, hB3⟩
  rw [HTd.out, HN.out] at own2
  have H3 := Lib.hid (And.intro (bgo H2.out.1 hB3) own2)
  clear own2 hB3
  go_wp2_with fail
  refine (pick_at month 42 pm Hpm w3 wm (by decide) (by decide)).mono ?_
  rintro e wq ⟨rfl, hwq⟩
  obtain rfl := hwq
  obtain ⟨A2, c2, rfl, sl2, cp1, cp2⟩ := own_slice2 H3.out.2
  have HS2 := Lib.hid sl2
  have Hc2 := Lib.hid (And.intro cp1 cp2)
  clear sl2 cp1 cp2
  go_wp2_with fail
  try rw [hmo]
  refine (bef_at A2 N c2 T HN.out (by omega) ⟨#[97, 110, 110]⟩ (mo : Int) a b (Lib.hid HB.out.ha) (Lib.hid HB.out.hb) (by omega) HL.out.sz w3 HS2.out).mono ?_
  rintro e w4 ⟨rfl, hB4⟩
  have H4 := Lib.hid (And.intro (bgo H3.out.1 hB4) (own_below H3.out.2 hB4))
  have HS4 := Lib.hid (HS2.out.go hB4)
  clear hB4
  go_wp2_with fail
  refine (pick_at byi ((N : Int) + 1) (k : Int) Hk w4 wb (by omega) (by omega)).mono ?_
  rintro e wq ⟨rfl, hwq⟩
  obtain rfl := hwq
  go_upto_region 6 with fail
  have hmk : ∀ w, (Instr.makeSlice 40 (.int .i64 0) (.int .i64 20)).run Tryd.prog w = .ok (.slice (some ⟨w.heap.size, 0, none⟩) 0 20) (w.alloc (.cells mk20 25)) := fun _ => by kernel_rfl
  have hrot : ∀ (f : TotD → Int), sumA f (befT ⟨#[97, 110, 110]⟩ (mo : Int) (T.drop k ++ T.take k)) = sumA f (befT ⟨#[97, 110, 110]⟩ (mo : Int) T) := fun f => (bef_sum f ⟨#[97, 110, 110]⟩ (mo : Int) (rot_mem T k) HL.out.ap).symm
  have Hrot := Lib.hid hrot
  clear hrot
  go_cut [17, 18] (fun p q wx => p = .int .i64 a ∧ q = .int .i64 b ∧ Below w4.heap.size w4 wx)
  case first =>
    have hwN : (T.drop k ++ T.take k).length = N := by rw [List.length_append, List.length_drop, List.length_take, HN.out]; omega
    have HwN := Lib.hid hwN
    have hsz : ∀ t ∈ T.drop k ++ T.take k, t.e.size ≤ maxLen ∧ t.p.size ≤ maxLen := fun t ht => HL.out.sz t ((rot_mem T k t).2 ht)
    have Hsz := Lib.hid hsz
    clear hwN hsz
    rcases own_shape H4.out.2 with ⟨hnil, hN0⟩ | ⟨bb, off, cap, hsome, slS, hcp1, hcp2⟩
    · have hk0 : k = 0 := by omega
      injection hnil with e1 e2 e3
      subst e1 e3 hk0
      have Hnil : Hid (T = []) := Lib.hid (List.eq_nil_of_length_eq_zero (by rw [HN.out]; exact hN0))
      have HN0 := Lib.hid hN0
      subst hN0
      refine wp_region_noPanic ?_
      refine wp_region_held_drew (S := fun _ => True) (by kernel_rfl) trivial (fun hHeld => ?_)
      refine wpAnyH_take (i := 1) (v := ?_) rfl (by kernel_rfl) (by kernel_rfl) (by kernel_rfl) (fun _ _ _ h => h) (Or.inl ⟨by kernel_rfl, ?_⟩) (by assumption) ?_
      rotate_left
      · intro w hSw
        (try dsimp only at hSw)
        go_simp
        first | done | with_reducible rfl
      simp only [List.getElem_toArray, List.getElem_cons_zero, List.getElem_cons_succ, Act.put, List.setIfInBounds_toArray, List.set_cons_zero, List.set_cons_succ]
      refine wpAnyH_take (i := 2) (v := ?_) rfl (by kernel_rfl) (by kernel_rfl) (by kernel_rfl) (fun _ _ _ h => h) (Or.inl ⟨by kernel_rfl, ?_⟩) (by assumption) ?_
      rotate_left
      · intro w hSw
        (try dsimp only at hSw)
        go_simp
        first | done | with_reducible rfl
      simp only [List.getElem_toArray, List.getElem_cons_zero, List.getElem_cons_succ, Act.put, List.setIfInBounds_toArray, List.set_cons_zero, List.set_cons_succ]
      refine wpAnyH_take (i := 3) (v := .slice none 0 0) rfl (by kernel_rfl) (by kernel_rfl) (by kernel_rfl) (fun _ _ _ h => h) (Or.inl ⟨by kernel_rfl, ?_⟩) (by assumption) ?_
      · intro w hSw
        (try dsimp only at hSw)
        go_simp
        first | done | with_reducible rfl
      simp only [List.getElem_toArray, List.getElem_cons_zero, List.getElem_cons_succ, Act.put, List.setIfInBounds_toArray, List.set_cons_zero, List.set_cons_succ]
      refine wpAnyH_take (i := 5) (v := ?_) rfl (by kernel_rfl) (by kernel_rfl) (by kernel_rfl) (fun _ _ _ h => h) (Or.inl ⟨by kernel_rfl, ?_⟩) (by assumption) ?_
      rotate_left
      · intro w hSw
        (try dsimp only at hSw)
        go_simp
        first | done | with_reducible rfl
      simp only [List.getElem_toArray, List.getElem_cons_zero, List.getElem_cons_succ, Act.put, List.setIfInBounds_toArray, List.set_cons_zero, List.set_cons_succ]
      refine wpAnyH_take (i := 6) (v := ?_) rfl (by kernel_rfl) (by kernel_rfl) (by kernel_rfl) (fun _ _ _ h => h) (Or.inl ⟨by kernel_rfl, ?_⟩) (by assumption) ?_
      rotate_left
      · intro w hSw
        (try dsimp only at hSw)
        go_simp
        first | done | with_reducible rfl
      simp only [List.getElem_toArray, List.getElem_cons_zero, List.getElem_cons_succ, Act.put, List.setIfInBounds_toArray, List.set_cons_zero, List.set_cons_succ]
      refine wpAnyH_take (i := 7) (v := .slice none 0 0) rfl (by kernel_rfl) (by kernel_rfl) (by kernel_rfl) (fun _ _ _ h => h) (Or.inl ⟨by kernel_rfl, ?_⟩) (by assumption) ?_
      · intro w hSw
        (try dsimp only at hSw)
        go_simp
        first | done | with_reducible rfl
      simp only [List.getElem_toArray, List.getElem_cons_zero, List.getElem_cons_succ, Act.put, List.setIfInBounds_toArray, List.set_cons_zero, List.set_cons_succ]
      refine wpAnyH_take (i := 9) (v := ?_) rfl (by kernel_rfl) (by kernel_rfl) (by kernel_rfl) (fun _ _ _ h => h) (Or.inl ⟨by kernel_rfl, ?_⟩) (by assumption) ?_
      rotate_left
      · intro w hSw
        (try dsimp only at hSw)
        go_simp
        first | done | with_reducible rfl
      simp only [List.getElem_toArray, List.getElem_cons_zero, List.getElem_cons_succ, Act.put, List.setIfInBounds_toArray, List.set_cons_zero, List.set_cons_succ]
      refine wpAnyH_ready (rs := [0]) (by kernel_rfl) (by simp) ?_
      refine AllReadyH.cons rfl (fun K hK => ?_) ?_
      · simp only [List.getElem_toArray, List.getElem_cons_zero, List.getElem_cons_succ]
        go_simp
        obtain ⟨w_0, hw_0⟩ : ∃ x, x = (w4.alloc (.cells mk20 25)).drew := ⟨_, rfl⟩
        rw [← hw_0]
        have own_0 : w_0.ownsRow w4.heap.size 25 5 (.slice (some ⟨w4.heap.size, 0, none⟩) 0 20) 0 [] := by rw [hw_0]; exact hn_mk w4 mk20 20 25 5 rfl (by decide) _ (Nat.le_refl _)
        have bel_0 : Below w4.heap.size w4 w_0 := by rw [hw_0]; exact (bal (Below.refl w4.heap.size w4) _).drew
        clear hw_0
        refine hK.out _ _ trivial (fun hHeld => ?_)
        clear hK K
        try simp only [List.getElem_toArray, List.getElem_cons_zero, List.getElem_cons_succ, Act.put, List.setIfInBounds_toArray, List.set_cons_zero, List.set_cons_succ]
        refine wpAnyH_ready (rs := [4]) (by kernel_rfl) (by simp) ?_
        refine AllReadyH.cons rfl (fun K hK => ?_) ?_
        · refine step_src (w0 := w4) (by rfl) _ _ 40 (by rfl) 25 j0 _ 5 56 Tryd.underlying40 hj0 hy0 hy1 hy2 (by rfl) (by decide) (.slice (some ⟨w4.heap.size, 0, none⟩) 0 20) (0) ([]) (by rfl) own_0 bel_0 (.slice none 0 0) (0) ([]) (by rfl) (.inl ⟨rfl, rfl, rfl⟩) (fun u hu => by cases hu) (by unfold maxLen; omega) (by omega) ?_
          intro v5_ w5_ own5_ bel5_ kept5_
          refine hK.out _ _ trivial (fun hHeld => ?_)
          clear hK K
          try simp only [List.getElem_toArray, List.getElem_cons_zero, List.getElem_cons_succ, Act.put, List.setIfInBounds_toArray, List.set_cons_zero, List.set_cons_succ]
          refine wpAnyH_ready (rs := [8]) (by kernel_rfl) (by simp) ?_
          refine AllReadyH.cons rfl (fun K hK => ?_) ?_
          · refine step_src (w0 := w4) (by rfl) _ _ 40 (by rfl) 25 j0 _ 5 56 Tryd.underlying40 hj0 hy0 hy1 hy2 (by rfl) (by decide) (v5_) (0 + 0) ([] ++ ([])) (by rfl) own5_ bel5_ (.slice none 0 0) (0) ([]) (by rfl) (.inl ⟨rfl, rfl, rfl⟩) (fun u hu => by cases hu) (by unfold maxLen; omega) (by omega) ?_
            intro v6_ w6_ own6_ bel6_ kept6_
            have own7_ : w6_.ownsRow w4.heap.size 25 5 v6_ 0 ((T.drop 0 ++ T.take 0).flatMap totL5) := by (have h := own6_; rw [Hnil.out]; rw [HN0.out]; exact h)
            obtain ⟨A7_, c7_, hv7_, sl7_, _, _⟩ := own_slice2 own7_
            subst hv7_
            refine hK.out _ _ trivial (fun hHeld => ?_)
            clear hK K
            try simp only [List.getElem_toArray, List.getElem_cons_zero, List.getElem_cons_succ, Act.put, List.setIfInBounds_toArray, List.set_cons_zero, List.set_cons_succ]
            refine wpAnyH_ready (rs := [10]) (by kernel_rfl) (by simp) ?_
            refine AllReadyH.cons rfl (fun K hK => ?_) ?_
            · simp only [List.getElem_toArray, List.getElem_cons_zero, List.getElem_cons_succ]
              go_simp
              (with_reducible refine (bef_at A7_ 0 c7_ (T.drop 0 ++ T.take 0) HwN.out (by omega) ⟨#[97, 110, 110]⟩ (mo : Int) a b (Lib.hid ((Hrot.out TotD.g).trans HB.out.ha)) (Lib.hid ((Hrot.out TotD.x).trans HB.out.hb)) (by omega) Hsz.out w6_ sl7_).mono ?_)
              rintro e w8_ ⟨rfl, hB8_⟩
              dsimp only
              refine hK.out _ _ trivial (fun hHeld => ?_)
              clear hK K
              try simp only [List.getElem_toArray, List.getElem_cons_zero, List.getElem_cons_succ, Act.put, List.setIfInBounds_toArray, List.set_cons_zero, List.set_cons_succ]
              refine wpAnyH_take (i := 11) (v := ?_) rfl (by kernel_rfl) (by kernel_rfl) (by kernel_rfl) (fun _ _ _ h => h) (Or.inl ⟨by kernel_rfl, ?_⟩) (by assumption) ?_
              rotate_left
              · intro w hSw
                (try dsimp only at hSw)
                go_simp
                first | done | with_reducible rfl
              simp only [List.getElem_toArray, List.getElem_cons_zero, List.getElem_cons_succ, Act.put, List.setIfInBounds_toArray, List.set_cons_zero, List.set_cons_succ]
              refine wpAnyH_take (i := 12) (v := ?_) rfl (by kernel_rfl) (by kernel_rfl) (by kernel_rfl) (fun _ _ _ h => h) (Or.inl ⟨by kernel_rfl, ?_⟩) (by assumption) ?_
              rotate_left
              · intro w hSw
                (try dsimp only at hSw)
                go_simp
                first | done | with_reducible rfl
              simp only [List.getElem_toArray, List.getElem_cons_zero, List.getElem_cons_succ, Act.put, List.setIfInBounds_toArray, List.set_cons_zero, List.set_cons_succ]
              refine wpAnyH_take (i := 13) (v := ?_) rfl (by kernel_rfl) (by kernel_rfl) (by kernel_rfl) (fun _ _ _ h => h) (Or.inl ⟨by kernel_rfl, ?_⟩) (by assumption) ?_
              rotate_left
              · intro w hSw
                (try dsimp only at hSw)
                go_simp
                first | done | with_reducible rfl
              simp only [List.getElem_toArray, List.getElem_cons_zero, List.getElem_cons_succ, Act.put, List.setIfInBounds_toArray, List.set_cons_zero, List.set_cons_succ]
              refine wpAnyH_take (i := 14) (v := ?_) rfl (by kernel_rfl) (by kernel_rfl) (by kernel_rfl) (fun _ _ _ h => h) (Or.inl ⟨by kernel_rfl, ?_⟩) (by assumption) ?_
              rotate_left
              · intro w hSw
                (try dsimp only at hSw)
                go_simp
                first | done | with_reducible rfl
              simp only [List.getElem_toArray, List.getElem_cons_zero, List.getElem_cons_succ, Act.put, List.setIfInBounds_toArray, List.set_cons_zero, List.set_cons_succ]
              refine wpAnyH_take (i := 15) (v := ?_) rfl (by kernel_rfl) (by kernel_rfl) (by kernel_rfl) (fun _ _ _ h => h) (Or.inl ⟨by kernel_rfl, ?_⟩) (by assumption) ?_
              rotate_left
              · intro w hSw
                (try dsimp only at hSw)
                go_simp
                first | done | with_reducible rfl
              simp only [List.getElem_toArray, List.getElem_cons_zero, List.getElem_cons_succ, Act.put, List.setIfInBounds_toArray, List.set_cons_zero, List.set_cons_succ]
              refine wpAnyH_done (by kernel_rfl) ?_ _
              dsimp only [NoPanic]
              clear hHeld
              go_wp2_with fail
              go_meet
              exact ⟨rfl, rfl, bgo bel6_ hB8_⟩
            exact AllReadyH.nil
          exact AllReadyH.nil
        exact AllReadyH.nil
      exact AllReadyH.nil
    · injection hsome with e1 e2 e3
      subst e1 e3
      have HSS := Lib.hid slS
      clear slS
      have hk1 : 0 ≤ (k : Int) ∧ (k : Int) ≤ (c2 : Int) := by omega
      have hk2 : 0 ≤ (k : Int) ∧ (k : Int) ≤ (N : Int) := by omega
      by_cases hck : c2 = k
      · have Hz0 : Hid (N - k = 0) := Lib.hid (by omega)
        have Hdr0 : Hid (T.drop k = []) := Lib.hid (List.drop_eq_nil_of_le (by rw [HN.out]; omega))
        have Hck := Lib.hid hck
        clear hck
        refine wp_region_noPanic ?_
        refine wp_region_held_drew (S := fun _ => True) (by kernel_rfl) trivial (fun hHeld => ?_)
        refine wpAnyH_take (i := 1) (v := ?_) rfl (by kernel_rfl) (by kernel_rfl) (by kernel_rfl) (fun _ _ _ h => h) (Or.inl ⟨by kernel_rfl, ?_⟩) (by assumption) ?_
        rotate_left
        · intro w hSw
          (try dsimp only at hSw)
          go_simp
          first | done | with_reducible rfl
        simp only [List.getElem_toArray, List.getElem_cons_zero, List.getElem_cons_succ, Act.put, List.setIfInBounds_toArray, List.set_cons_zero, List.set_cons_succ]
        refine wpAnyH_take (i := 2) (v := ?_) rfl (by kernel_rfl) (by kernel_rfl) (by kernel_rfl) (fun _ _ _ h => h) (Or.inl ⟨by kernel_rfl, ?_⟩) (by assumption) ?_
        rotate_left
        · intro w hSw
          (try dsimp only at hSw)
          go_simp
          first | done | with_reducible rfl
        simp only [List.getElem_toArray, List.getElem_cons_zero, List.getElem_cons_succ, Act.put, List.setIfInBounds_toArray, List.set_cons_zero, List.set_cons_succ]
        refine wpAnyH_take (i := 3) (v := .slice (some ⟨bb, off, none⟩) (N - k) 0) rfl (by kernel_rfl) (by kernel_rfl) (by kernel_rfl) (fun _ _ _ h => h) (Or.inl ⟨by kernel_rfl, ?_⟩) (by assumption) ?_
        · intro w hSw
          (try dsimp only at hSw)
          have hck_ := Hck.out
          go_simp
          first | done | with_reducible rfl
        simp only [List.getElem_toArray, List.getElem_cons_zero, List.getElem_cons_succ, Act.put, List.setIfInBounds_toArray, List.set_cons_zero, List.set_cons_succ]
        refine wpAnyH_take (i := 5) (v := ?_) rfl (by kernel_rfl) (by kernel_rfl) (by kernel_rfl) (fun _ _ _ h => h) (Or.inl ⟨by kernel_rfl, ?_⟩) (by assumption) ?_
        rotate_left
        · intro w hSw
          (try dsimp only at hSw)
          go_simp
          first | done | with_reducible rfl
        simp only [List.getElem_toArray, List.getElem_cons_zero, List.getElem_cons_succ, Act.put, List.setIfInBounds_toArray, List.set_cons_zero, List.set_cons_succ]
        refine wpAnyH_take (i := 6) (v := ?_) rfl (by kernel_rfl) (by kernel_rfl) (by kernel_rfl) (fun _ _ _ h => h) (Or.inl ⟨by kernel_rfl, ?_⟩) (by assumption) ?_
        rotate_left
        · intro w hSw
          (try dsimp only at hSw)
          go_simp
          first | done | with_reducible rfl
        simp only [List.getElem_toArray, List.getElem_cons_zero, List.getElem_cons_succ, Act.put, List.setIfInBounds_toArray, List.set_cons_zero, List.set_cons_succ]
        refine wpAnyH_take (i := 7) (v := .slice (some ⟨bb, off, none⟩) k c2) rfl (by kernel_rfl) (by kernel_rfl) (by kernel_rfl) (fun _ _ _ h => h) (Or.inl ⟨by kernel_rfl, ?_⟩) (by assumption) ?_
        · intro w hSw
          (try dsimp only at hSw)
          go_simp
          first | done | with_reducible rfl
        simp only [List.getElem_toArray, List.getElem_cons_zero, List.getElem_cons_succ, Act.put, List.setIfInBounds_toArray, List.set_cons_zero, List.set_cons_succ]
        refine wpAnyH_take (i := 9) (v := ?_) rfl (by kernel_rfl) (by kernel_rfl) (by kernel_rfl) (fun _ _ _ h => h) (Or.inl ⟨by kernel_rfl, ?_⟩) (by assumption) ?_
        rotate_left
        · intro w hSw
          (try dsimp only at hSw)
          go_simp
          first | done | with_reducible rfl
        simp only [List.getElem_toArray, List.getElem_cons_zero, List.getElem_cons_succ, Act.put, List.setIfInBounds_toArray, List.set_cons_zero, List.set_cons_succ]
        refine wpAnyH_ready (rs := [0]) (by kernel_rfl) (by simp) ?_
        refine AllReadyH.cons rfl (fun K hK => ?_) ?_
        · simp only [List.getElem_toArray, List.getElem_cons_zero, List.getElem_cons_succ]
          go_simp
          obtain ⟨w_0, hw_0⟩ : ∃ x, x = (w4.alloc (.cells mk20 25)).drew := ⟨_, rfl⟩
          rw [← hw_0]
          have own_0 : w_0.ownsRow w4.heap.size 25 5 (.slice (some ⟨w4.heap.size, 0, none⟩) 0 20) 0 [] := by rw [hw_0]; exact hn_mk w4 mk20 20 25 5 rfl (by decide) _ (Nat.le_refl _)
          have bel_0 : Below w4.heap.size w4 w_0 := by rw [hw_0]; exact (bal (Below.refl w4.heap.size w4) _).drew
          clear hw_0
          refine hK.out _ _ trivial (fun hHeld => ?_)
          clear hK K
          try simp only [List.getElem_toArray, List.getElem_cons_zero, List.getElem_cons_succ, Act.put, List.setIfInBounds_toArray, List.set_cons_zero, List.set_cons_succ]
          refine wpAnyH_ready (rs := [4]) (by kernel_rfl) (by simp) ?_
          refine AllReadyH.cons rfl (fun K hK => ?_) ?_
          · refine step_src (w0 := w4) (by rfl) _ _ 40 (by rfl) 25 j0 _ 5 56 Tryd.underlying40 hj0 hy0 hy1 hy2 (by rfl) (by decide) (.slice (some ⟨w4.heap.size, 0, none⟩) 0 20) (0) ([]) (by rfl) own_0 bel_0 (.slice (some ⟨bb, off, none⟩) (N - k) 0) (N - k) ((T.drop k).flatMap totL5) (by rfl) (by rw [Hz0.out, Hdr0.out]; exact src_zero9 _ _ _ _) (tots_one _) (by unfold maxLen; omega) (by omega) ?_
            intro v5_ w5_ own5_ bel5_ kept5_
            refine hK.out _ _ trivial (fun hHeld => ?_)
            clear hK K
            try simp only [List.getElem_toArray, List.getElem_cons_zero, List.getElem_cons_succ, Act.put, List.setIfInBounds_toArray, List.set_cons_zero, List.set_cons_succ]
            refine wpAnyH_ready (rs := [8]) (by kernel_rfl) (by simp) ?_
            refine AllReadyH.cons rfl (fun K hK => ?_) ?_
            · refine step_src (w0 := w4) (by rfl) _ _ 40 (by rfl) 25 j0 _ 5 56 Tryd.underlying40 hj0 hy0 hy1 hy2 (by rfl) (by decide) (v5_) (0 + (N - k)) ([] ++ ((T.drop k).flatMap totL5)) (by rfl) own5_ bel5_ (.slice (some ⟨bb, off, none⟩) k c2) (k) ((T.take k).flatMap totL5) (by rfl) (by rw [← hn_takeK totL5 5 (fun _ => rfl)]; exact hn_src ((HSS.out.go bel5_).take k hkN)) (tots_one _) (by unfold maxLen; omega) (by omega) ?_
              intro v6_ w6_ own6_ bel6_ kept6_
              have own7_ : w6_.ownsRow w4.heap.size 25 5 v6_ N ((T.drop k ++ T.take k).flatMap totL5) := by (have h := own6_; rw [List.flatMap_append]; rw [List.nil_append, show 0 + (N - k) + k = N by omega] at h; exact h)
              obtain ⟨A7_, c7_, hv7_, sl7_, _, _⟩ := own_slice2 own7_
              subst hv7_
              refine hK.out _ _ trivial (fun hHeld => ?_)
              clear hK K
              try simp only [List.getElem_toArray, List.getElem_cons_zero, List.getElem_cons_succ, Act.put, List.setIfInBounds_toArray, List.set_cons_zero, List.set_cons_succ]
              refine wpAnyH_ready (rs := [10]) (by kernel_rfl) (by simp) ?_
              refine AllReadyH.cons rfl (fun K hK => ?_) ?_
              · simp only [List.getElem_toArray, List.getElem_cons_zero, List.getElem_cons_succ]
                go_simp
                (with_reducible refine (bef_at A7_ N c7_ (T.drop k ++ T.take k) HwN.out (by omega) ⟨#[97, 110, 110]⟩ (mo : Int) a b (Lib.hid ((Hrot.out TotD.g).trans HB.out.ha)) (Lib.hid ((Hrot.out TotD.x).trans HB.out.hb)) (by omega) Hsz.out w6_ sl7_).mono ?_)
                rintro e w8_ ⟨rfl, hB8_⟩
                dsimp only
                refine hK.out _ _ trivial (fun hHeld => ?_)
                clear hK K
                try simp only [List.getElem_toArray, List.getElem_cons_zero, List.getElem_cons_succ, Act.put, List.setIfInBounds_toArray, List.set_cons_zero, List.set_cons_succ]
                refine wpAnyH_take (i := 11) (v := ?_) rfl (by kernel_rfl) (by kernel_rfl) (by kernel_rfl) (fun _ _ _ h => h) (Or.inl ⟨by kernel_rfl, ?_⟩) (by assumption) ?_
                rotate_left
                · intro w hSw
                  (try dsimp only at hSw)
                  go_simp
                  first | done | with_reducible rfl
                simp only [List.getElem_toArray, List.getElem_cons_zero, List.getElem_cons_succ, Act.put, List.setIfInBounds_toArray, List.set_cons_zero, List.set_cons_succ]
                refine wpAnyH_take (i := 12) (v := ?_) rfl (by kernel_rfl) (by kernel_rfl) (by kernel_rfl) (fun _ _ _ h => h) (Or.inl ⟨by kernel_rfl, ?_⟩) (by assumption) ?_
                rotate_left
                · intro w hSw
                  (try dsimp only at hSw)
                  go_simp
                  first | done | with_reducible rfl
                simp only [List.getElem_toArray, List.getElem_cons_zero, List.getElem_cons_succ, Act.put, List.setIfInBounds_toArray, List.set_cons_zero, List.set_cons_succ]
                refine wpAnyH_take (i := 13) (v := ?_) rfl (by kernel_rfl) (by kernel_rfl) (by kernel_rfl) (fun _ _ _ h => h) (Or.inl ⟨by kernel_rfl, ?_⟩) (by assumption) ?_
                rotate_left
                · intro w hSw
                  (try dsimp only at hSw)
                  go_simp
                  first | done | with_reducible rfl
                simp only [List.getElem_toArray, List.getElem_cons_zero, List.getElem_cons_succ, Act.put, List.setIfInBounds_toArray, List.set_cons_zero, List.set_cons_succ]
                refine wpAnyH_take (i := 14) (v := ?_) rfl (by kernel_rfl) (by kernel_rfl) (by kernel_rfl) (fun _ _ _ h => h) (Or.inl ⟨by kernel_rfl, ?_⟩) (by assumption) ?_
                rotate_left
                · intro w hSw
                  (try dsimp only at hSw)
                  go_simp
                  first | done | with_reducible rfl
                simp only [List.getElem_toArray, List.getElem_cons_zero, List.getElem_cons_succ, Act.put, List.setIfInBounds_toArray, List.set_cons_zero, List.set_cons_succ]
                refine wpAnyH_take (i := 15) (v := ?_) rfl (by kernel_rfl) (by kernel_rfl) (by kernel_rfl) (fun _ _ _ h => h) (Or.inl ⟨by kernel_rfl, ?_⟩) (by assumption) ?_
                rotate_left
                · intro w hSw
                  (try dsimp only at hSw)
                  go_simp
                  first | done | with_reducible rfl
                simp only [List.getElem_toArray, List.getElem_cons_zero, List.getElem_cons_succ, Act.put, List.setIfInBounds_toArray, List.set_cons_zero, List.set_cons_succ]
                refine wpAnyH_done (by kernel_rfl) ?_ _
                dsimp only [NoPanic]
                clear hHeld
                go_wp2_with fail
                go_meet
                exact ⟨rfl, rfl, bgo bel6_ hB8_⟩
              exact AllReadyH.nil
            exact AllReadyH.nil
          exact AllReadyH.nil
        exact AllReadyH.nil
      · have hck2 : k < c2 := by omega
        refine wp_region_noPanic ?_
        refine wp_region_held_drew (S := fun _ => True) (by kernel_rfl) trivial (fun hHeld => ?_)
        refine wpAnyH_take (i := 1) (v := ?_) rfl (by kernel_rfl) (by kernel_rfl) (by kernel_rfl) (fun _ _ _ h => h) (Or.inl ⟨by kernel_rfl, ?_⟩) (by assumption) ?_
        rotate_left
        · intro w hSw
          (try dsimp only at hSw)
          go_simp
          first | done | with_reducible rfl
        simp only [List.getElem_toArray, List.getElem_cons_zero, List.getElem_cons_succ, Act.put, List.setIfInBounds_toArray, List.set_cons_zero, List.set_cons_succ]
        refine wpAnyH_take (i := 2) (v := ?_) rfl (by kernel_rfl) (by kernel_rfl) (by kernel_rfl) (fun _ _ _ h => h) (Or.inl ⟨by kernel_rfl, ?_⟩) (by assumption) ?_
        rotate_left
        · intro w hSw
          (try dsimp only at hSw)
          go_simp
          first | done | with_reducible rfl
        simp only [List.getElem_toArray, List.getElem_cons_zero, List.getElem_cons_succ, Act.put, List.setIfInBounds_toArray, List.set_cons_zero, List.set_cons_succ]
        refine wpAnyH_take (i := 3) (v := .slice (some ⟨bb, off + k * 5, none⟩) (N - k) (c2 - k)) rfl (by kernel_rfl) (by kernel_rfl) (by kernel_rfl) (fun _ _ _ h => h) (Or.inl ⟨by kernel_rfl, ?_⟩) (by assumption) ?_
        · intro w hSw
          (try dsimp only at hSw)
          go_simp
          first | done | with_reducible rfl
        simp only [List.getElem_toArray, List.getElem_cons_zero, List.getElem_cons_succ, Act.put, List.setIfInBounds_toArray, List.set_cons_zero, List.set_cons_succ]
        refine wpAnyH_take (i := 5) (v := ?_) rfl (by kernel_rfl) (by kernel_rfl) (by kernel_rfl) (fun _ _ _ h => h) (Or.inl ⟨by kernel_rfl, ?_⟩) (by assumption) ?_
        rotate_left
        · intro w hSw
          (try dsimp only at hSw)
          go_simp
          first | done | with_reducible rfl
        simp only [List.getElem_toArray, List.getElem_cons_zero, List.getElem_cons_succ, Act.put, List.setIfInBounds_toArray, List.set_cons_zero, List.set_cons_succ]
        refine wpAnyH_take (i := 6) (v := ?_) rfl (by kernel_rfl) (by kernel_rfl) (by kernel_rfl) (fun _ _ _ h => h) (Or.inl ⟨by kernel_rfl, ?_⟩) (by assumption) ?_
        rotate_left
        · intro w hSw
          (try dsimp only at hSw)
          go_simp
          first | done | with_reducible rfl
        simp only [List.getElem_toArray, List.getElem_cons_zero, List.getElem_cons_succ, Act.put, List.setIfInBounds_toArray, List.set_cons_zero, List.set_cons_succ]
        refine wpAnyH_take (i := 7) (v := .slice (some ⟨bb, off, none⟩) k c2) rfl (by kernel_rfl) (by kernel_rfl) (by kernel_rfl) (fun _ _ _ h => h) (Or.inl ⟨by kernel_rfl, ?_⟩) (by assumption) ?_
        · intro w hSw
          (try dsimp only at hSw)
          go_simp
          first | done | with_reducible rfl
        simp only [List.getElem_toArray, List.getElem_cons_zero, List.getElem_cons_succ, Act.put, List.setIfInBounds_toArray, List.set_cons_zero, List.set_cons_succ]
        refine wpAnyH_take (i := 9) (v := ?_) rfl (by kernel_rfl) (by kernel_rfl) (by kernel_rfl) (fun _ _ _ h => h) (Or.inl ⟨by kernel_rfl, ?_⟩) (by assumption) ?_
        rotate_left
        · intro w hSw
          (try dsimp only at hSw)
          go_simp
          first | done | with_reducible rfl
        simp only [List.getElem_toArray, List.getElem_cons_zero, List.getElem_cons_succ, Act.put, List.setIfInBounds_toArray, List.set_cons_zero, List.set_cons_succ]
        refine wpAnyH_ready (rs := [0]) (by kernel_rfl) (by simp) ?_
        refine AllReadyH.cons rfl (fun K hK => ?_) ?_
        · simp only [List.getElem_toArray, List.getElem_cons_zero, List.getElem_cons_succ]
          go_simp
          obtain ⟨w_0, hw_0⟩ : ∃ x, x = (w4.alloc (.cells mk20 25)).drew := ⟨_, rfl⟩
          rw [← hw_0]
          have own_0 : w_0.ownsRow w4.heap.size 25 5 (.slice (some ⟨w4.heap.size, 0, none⟩) 0 20) 0 [] := by rw [hw_0]; exact hn_mk w4 mk20 20 25 5 rfl (by decide) _ (Nat.le_refl _)
          have bel_0 : Below w4.heap.size w4 w_0 := by rw [hw_0]; exact (bal (Below.refl w4.heap.size w4) _).drew
          clear hw_0
          refine hK.out _ _ trivial (fun hHeld => ?_)
          clear hK K
          try simp only [List.getElem_toArray, List.getElem_cons_zero, List.getElem_cons_succ, Act.put, List.setIfInBounds_toArray, List.set_cons_zero, List.set_cons_succ]
          refine wpAnyH_ready (rs := [4]) (by kernel_rfl) (by simp) ?_
          refine AllReadyH.cons rfl (fun K hK => ?_) ?_
          · refine step_src (w0 := w4) (by rfl) _ _ 40 (by rfl) 25 j0 _ 5 56 Tryd.underlying40 hj0 hy0 hy1 hy2 (by rfl) (by decide) (.slice (some ⟨w4.heap.size, 0, none⟩) 0 20) (0) ([]) (by rfl) own_0 bel_0 (.slice (some ⟨bb, off + k * 5, none⟩) (N - k) (c2 - k)) (N - k) ((T.drop k).flatMap totL5) (by rfl) (by rw [← hn_dropK totL5 5 (fun _ => rfl)]; exact hn_src ((HSS.out.go bel_0).hndrop k hkN)) (tots_one _) (by unfold maxLen; omega) (by omega) ?_
            intro v5_ w5_ own5_ bel5_ kept5_
            refine hK.out _ _ trivial (fun hHeld => ?_)
            clear hK K
            try simp only [List.getElem_toArray, List.getElem_cons_zero, List.getElem_cons_succ, Act.put, List.setIfInBounds_toArray, List.set_cons_zero, List.set_cons_succ]
            refine wpAnyH_ready (rs := [8]) (by kernel_rfl) (by simp) ?_
            refine AllReadyH.cons rfl (fun K hK => ?_) ?_
            · refine step_src (w0 := w4) (by rfl) _ _ 40 (by rfl) 25 j0 _ 5 56 Tryd.underlying40 hj0 hy0 hy1 hy2 (by rfl) (by decide) (v5_) (0 + (N - k)) ([] ++ ((T.drop k).flatMap totL5)) (by rfl) own5_ bel5_ (.slice (some ⟨bb, off, none⟩) k c2) (k) ((T.take k).flatMap totL5) (by rfl) (by rw [← hn_takeK totL5 5 (fun _ => rfl)]; exact hn_src ((HSS.out.go bel5_).take k hkN)) (tots_one _) (by unfold maxLen; omega) (by omega) ?_
              intro v6_ w6_ own6_ bel6_ kept6_
              have own7_ : w6_.ownsRow w4.heap.size 25 5 v6_ N ((T.drop k ++ T.take k).flatMap totL5) := by (have h := own6_; rw [List.flatMap_append]; rw [List.nil_append, show 0 + (N - k) + k = N by omega] at h; exact h)
              obtain ⟨A7_, c7_, hv7_, sl7_, _, _⟩ := own_slice2 own7_
              subst hv7_
              refine hK.out _ _ trivial (fun hHeld => ?_)
              clear hK K
              try simp only [List.getElem_toArray, List.getElem_cons_zero, List.getElem_cons_succ, Act.put, List.setIfInBounds_toArray, List.set_cons_zero, List.set_cons_succ]
              refine wpAnyH_ready (rs := [10]) (by kernel_rfl) (by simp) ?_
              refine AllReadyH.cons rfl (fun K hK => ?_) ?_
              · simp only [List.getElem_toArray, List.getElem_cons_zero, List.getElem_cons_succ]
                go_simp
                (with_reducible refine (bef_at A7_ N c7_ (T.drop k ++ T.take k) HwN.out (by omega) ⟨#[97, 110, 110]⟩ (mo : Int) a b (Lib.hid ((Hrot.out TotD.g).trans HB.out.ha)) (Lib.hid ((Hrot.out TotD.x).trans HB.out.hb)) (by omega) Hsz.out w6_ sl7_).mono ?_)
                rintro e w8_ ⟨rfl, hB8_⟩
                dsimp only
                refine hK.out _ _ trivial (fun hHeld => ?_)
                clear hK K
                try simp only [List.getElem_toArray, List.getElem_cons_zero, List.getElem_cons_succ, Act.put, List.setIfInBounds_toArray, List.set_cons_zero, List.set_cons_succ]
                refine wpAnyH_take (i := 11) (v := ?_) rfl (by kernel_rfl) (by kernel_rfl) (by kernel_rfl) (fun _ _ _ h => h) (Or.inl ⟨by kernel_rfl, ?_⟩) (by assumption) ?_
                rotate_left
                · intro w hSw
                  (try dsimp only at hSw)
                  go_simp
                  first | done | with_reducible rfl
                simp only [List.getElem_toArray, List.getElem_cons_zero, List.getElem_cons_succ, Act.put, List.setIfInBounds_toArray, List.set_cons_zero, List.set_cons_succ]
                refine wpAnyH_take (i := 12) (v := ?_) rfl (by kernel_rfl) (by kernel_rfl) (by kernel_rfl) (fun _ _ _ h => h) (Or.inl ⟨by kernel_rfl, ?_⟩) (by assumption) ?_
                rotate_left
                · intro w hSw
                  (try dsimp only at hSw)
                  go_simp
                  first | done | with_reducible rfl
                simp only [List.getElem_toArray, List.getElem_cons_zero, List.getElem_cons_succ, Act.put, List.setIfInBounds_toArray, List.set_cons_zero, List.set_cons_succ]
                refine wpAnyH_take (i := 13) (v := ?_) rfl (by kernel_rfl) (by kernel_rfl) (by kernel_rfl) (fun _ _ _ h => h) (Or.inl ⟨by kernel_rfl, ?_⟩) (by assumption) ?_
                rotate_left
                · intro w hSw
                  (try dsimp only at hSw)
                  go_simp
                  first | done | with_reducible rfl
                simp only [List.getElem_toArray, List.getElem_cons_zero, List.getElem_cons_succ, Act.put, List.setIfInBounds_toArray, List.set_cons_zero, List.set_cons_succ]
                refine wpAnyH_take (i := 14) (v := ?_) rfl (by kernel_rfl) (by kernel_rfl) (by kernel_rfl) (fun _ _ _ h => h) (Or.inl ⟨by kernel_rfl, ?_⟩) (by assumption) ?_
                rotate_left
                · intro w hSw
                  (try dsimp only at hSw)
                  go_simp
                  first | done | with_reducible rfl
                simp only [List.getElem_toArray, List.getElem_cons_zero, List.getElem_cons_succ, Act.put, List.setIfInBounds_toArray, List.set_cons_zero, List.set_cons_succ]
                refine wpAnyH_take (i := 15) (v := ?_) rfl (by kernel_rfl) (by kernel_rfl) (by kernel_rfl) (fun _ _ _ h => h) (Or.inl ⟨by kernel_rfl, ?_⟩) (by assumption) ?_
                rotate_left
                · intro w hSw
                  (try dsimp only at hSw)
                  go_simp
                  first | done | with_reducible rfl
                simp only [List.getElem_toArray, List.getElem_cons_zero, List.getElem_cons_succ, Act.put, List.setIfInBounds_toArray, List.set_cons_zero, List.set_cons_succ]
                refine wpAnyH_done (by kernel_rfl) ?_ _
                dsimp only [NoPanic]
                clear hHeld
                go_wp2_with fail
                go_meet
                exact ⟨rfl, rfl, bgo bel6_ hB8_⟩
              exact AllReadyH.nil
            exact AllReadyH.nil
          exact AllReadyH.nil
        exact AllReadyH.nil
  case rest =>
    obtain ⟨rfl, rfl, hB5⟩ := hcut
    obtain ⟨w5, hw5⟩ : ∃ x, x = wc := ⟨_, rfl⟩
    subst hw5
    have H5B := Lib.hid hB5
    have H5 := Lib.hid (And.intro (bgo H4.out.1 hB5) (HS4.out.go hB5))
    clear hB5 hmk Hrot
    go_wp2_with fail
    go_loopw [19, 20, 21] (fun vf vo ix wr => ∃ q : Nat, q ≤ N ∧ ix = .int .i64 (q : Int) ∧ ∃ fs os : List TotD, fewL (mo : Int) (T.take q) = fs ∧ othL (mo : Int) (T.take q) = os ∧ wr.ownsRow w5.heap.size 25 5 vf fs.length (fs.flatMap totL5) ∧ wr.ownsRow w5.heap.size 25 5 vo os.length (os.flatMap totL5) ∧ OwnApart vf vo ∧ Below w5.heap.size w5 wr) (fun _ _ ix _ => N - (intOf ix).toNat)
    case atStart => exact ⟨0, Nat.zero_le _, rfl, [], [], rfl, rfl, ⟨rfl, .inl ⟨rfl, rfl⟩⟩, ⟨rfl, .inl ⟨rfl, rfl⟩⟩, OwnApart.nil _, Below.refl _ _⟩
    case round =>
      obtain ⟨q, hq, rfl, fs, os, hfs, hos, ownF, ownO, hap, hBr⟩ := hrel
      by_cases hlt : q < N
      · have hc1 : (q : Int) < (N : Int) := by omega
        obtain ⟨bb, off, rfl, hbb, hcell⟩ := H5.out.2.2 (by omega)
        have hkl : q < T.length := by rw [HN.out]; exact hlt
        have hget := flat_get totL5 5 (fun _ => rfl) T q hkl
        obtain ⟨t, ht⟩ : ∃ t, T[q] = t := ⟨_, rfl⟩
        have htm : T[q]? = some t := by rw [List.getElem?_eq_getElem hkl, ht]
        have hva := HL.out.va t (by rw [← ht]; exact List.getElem_mem hkl)
        have hfx := few_succ (mo := (mo : Int)) htm
        have hox := oth_succ (mo := (mo : Int)) htm
        rw [hfs] at hfx
        rw [hos] at hox
        have hfl : fs.length ≤ 20 := by rw [← hfs]; exact Nat.le_trans (few_len _ _) (by rw [List.length_take, HN.out]; omega)
        have hol : os.length ≤ 20 := by rw [← hos]; exact Nat.le_trans (oth_len _ _) (by rw [List.length_take, HN.out]; omega)
        rw [ht] at hget
        obtain ⟨te, tp, tm, tg, tx⟩ := t
        rw [cnt_mk hva] at hfx hox
        have hvo := (valid_out hva).2.2.1
        dsimp only at hvo hox
        obtain ⟨mn, hmn⟩ : ∃ z : Nat, tm = (z : Int) := ⟨tm.toNat, by omega⟩
        subst hmn
        have hcl : ∀ (W : World), Below w5.heap.size w5 W → ∀ j u, (totL5 ⟨te, tp, (mn : Int), tg, tx⟩)[j]? = some u → j < 5 → W.cell? ⟨bb, off + q * 5 + j, none⟩ = some u := fun W hW j u hu hj =>
          (hW.cell (p := ⟨bb, off + q * 5 + j, none⟩) hbb).trans (by rw [Nat.add_assoc]; exact hcell _ _ ((hget j hj).trans hu))
        have k0 : wr.cell? ⟨bb, off + q * 5, none⟩ = some (.string te) := hcl wr hBr 0 _ rfl (by decide)
        have k1 : wr.cell? ⟨bb, off + q * 5 + 1, none⟩ = some (.string tp) := hcl wr hBr 1 _ rfl (by decide)
        have k2 : wr.cell? ⟨bb, off + q * 5 + 2, none⟩ = some (.int .i64 (mn : Int)) := hcl wr hBr 2 _ rfl (by decide)
        have k3 : wr.cell? ⟨bb, off + q * 5 + 3, none⟩ = some (.int .i64 tg) := hcl wr hBr 3 _ rfl (by decide)
        have k4 : wr.cell? ⟨bb, off + q * 5 + 4, none⟩ = some (.int .i64 tx) := hcl wr hBr 4 _ rfl (by decide)
        have Hfx := Lib.hid hfx
        have Hox := Lib.hid hox
        have Hown := Lib.hid (And.intro ownF (And.intro ownO (And.intro hap hBr)))
        have HC := Lib.hid hcl
        have hb0 : w5.heap.size ≤ wr.heap.size := hBr.size
        have d1 : (mn : Int).tdiv 12 = (mn : Int) / 12 := Int.tdiv_eq_ediv_of_nonneg (by omega)
        have d2 : (mo : Int).tdiv 12 = (mo : Int) / 12 := Int.tdiv_eq_ediv_of_nonneg (by omega)
        clear hcell hget ht htm hva hfx hox hfs hos ownF ownO hap hkl hcl
        by_cases h1 : tp = ⟨#[97, 110, 110]⟩
        · have e1 : tp.toList = [97, 110, 110] := lit_eq h1
          by_cases h2 : mn < mo
          · have e2 : (mn : Int) < (mo : Int) := by omega
            by_cases h3 : mn / 12 = mo / 12
            · have e3 : (mn : Int) / 12 = (mo : Int) / 12 := by omega
              have Hfx1 : Hid (fewL (mo : Int) (T.take (q + 1)) = fs ++ [⟨te, tp, (mn : Int), tg, tx⟩]) := Lib.hid (by rw [Hfx.out, decide_eq_true h1, decide_eq_true e2, decide_eq_true e3]; rfl)
              have H1x := Lib.hid h1
              clear h1
              go_wp2_with (first
                | (at_builtin; refine app_src3 (w0 := w5) w5.heap.size (Nat.le_refl _) ?c0 rfl _ _ 40 rfl 25 j0 _ 5 56 Tryd.underlying40 hj0 hy0 hy1 hy2 rfl (by decide) u19 fs.length (fs.flatMap totL5) rfl (Hown.out.1.alloc _) (bal Hown.out.2.2.2 _) (.slice (some ⟨wr.heap.size, 0, none⟩) 1 1) 1 [.string te, .string tp, .int .i64 (mn : Int), .int .i64 tg, .int .i64 tx] rfl (block_src wr [.string te, .string tp, .int .i64 (mn : Int), .int .i64 tg, .int .i64 tx] _ _ 1 1 5 rfl) (by simp [Value.oneCell']) (by decide) (by unfold maxLen; omega) (by omega) ?_)
                | go_in)
              case c0 => first | omega | (simp; omega) | (rw [World.size_alloc]; omega)
              intro v7 w7 own7 bel7 kept7 wh7
              have ownO7 := Hown.out.2.2.1.symm.keep (Hown.out.2.1.alloc _) kept7
              have hap7 := Hown.out.2.2.1.symm.app2 wh7 Hown.out.2.1
              have Hown7 := Lib.hid (And.intro own7 (And.intro ownO7 (And.intro hap7 bel7)))
              have hb7 : w5.heap.size ≤ w7.heap.size := bel7.size
              clear own7 bel7 kept7 wh7 ownO7 hap7 k0 k1 k2 k3 k4
              have k0 : w7.cell? ⟨bb, off + q * 5, none⟩ = some (.string te) := HC.out w7 Hown7.out.2.2.2 0 _ rfl (by decide)
              by_cases h4 : te = ⟨#[97, 99, 109, 101]⟩
              · have Hox1 : Hid (othL (mo : Int) (T.take (q + 1)) = os) := Lib.hid (by rw [Hox.out, decide_eq_true H1x.out, decide_eq_true e2, decide_eq_true e3, if_pos (show (true && true && true) = true from rfl), if_neg (fun h => h h4), List.append_nil])
                have e4 : te.toList = [97, 99, 109, 101] := lit_eq h4
                have H4x := Lib.hid h4
                clear h4 h2 h3 e3
                go_wp2_with fail
                go_roundw
                case rel => exact ⟨q + 1, by omega, by go_num, _, _, Hfx1.out, Hox1.out, by (have h := Hown7.out.1; rw [List.flatMap_append, List.length_append]; exact h), Hown7.out.2.1, Hown7.out.2.2.1.symm, Hown7.out.2.2.2⟩
                case measure => simp [intOf]; omega
              · have Hox1 : Hid (othL (mo : Int) (T.take (q + 1)) = os ++ [⟨te, tp, (mn : Int), tg, tx⟩]) := Lib.hid (by rw [Hox.out, decide_eq_true H1x.out, decide_eq_true e2, decide_eq_true e3, if_pos (show (true && true && true) = true from rfl), if_pos h4])
                have e4 : ¬ te.toList = [97, 99, 109, 101] := lit_ne h4
                have e4' : (te.toList == [97, 99, 109, 101]) = false := beq_eq_false_iff_ne.2 e4
                have k1 : w7.cell? ⟨bb, off + q * 5 + 1, none⟩ = some (.string tp) := HC.out w7 Hown7.out.2.2.2 1 _ rfl (by decide)
                have k2 : w7.cell? ⟨bb, off + q * 5 + 2, none⟩ = some (.int .i64 (mn : Int)) := HC.out w7 Hown7.out.2.2.2 2 _ rfl (by decide)
                have k3 : w7.cell? ⟨bb, off + q * 5 + 3, none⟩ = some (.int .i64 tg) := HC.out w7 Hown7.out.2.2.2 3 _ rfl (by decide)
                have k4 : w7.cell? ⟨bb, off + q * 5 + 4, none⟩ = some (.int .i64 tx) := HC.out w7 Hown7.out.2.2.2 4 _ rfl (by decide)
                have H4x := Lib.hid h4
                clear h4 h2 h3 e3
                go_wp2_with (first
                  | (at_builtin; refine app_src3 (w0 := w5) w5.heap.size (Nat.le_refl _) ?c0 rfl _ _ 40 rfl 25 j0 _ 5 56 Tryd.underlying40 hj0 hy0 hy1 hy2 rfl (by decide) u20 os.length (os.flatMap totL5) rfl (Hown7.out.2.1.alloc _) (bal Hown7.out.2.2.2 _) (.slice (some ⟨w7.heap.size, 0, none⟩) 1 1) 1 [.string te, .string tp, .int .i64 (mn : Int), .int .i64 tg, .int .i64 tx] rfl (block_src w7 [.string te, .string tp, .int .i64 (mn : Int), .int .i64 tg, .int .i64 tx] _ _ 1 1 5 rfl) (by simp [Value.oneCell']) (by decide) (by unfold maxLen; omega) (by omega) ?_)
                  | go_in)
                case c0 => first | omega | (simp; omega) | (rw [World.size_alloc]; omega)
                intro v8 w8 own8 bel8 kept8 wh8
                have ownF8 := Hown7.out.2.2.1.symm.keep (Hown7.out.1.alloc _) kept8
                have hap8 := Hown7.out.2.2.1.symm.app2 wh8 Hown7.out.1
                have Hown8 := Lib.hid (And.intro own8 (And.intro ownF8 (And.intro hap8 bel8)))
                clear own8 bel8 kept8 wh8 ownF8 hap8 k0 k1 k2 k3 k4
                go_wp2_with fail
                go_roundw
                case rel => exact ⟨q + 1, by omega, by go_num, _, _, Hfx1.out, Hox1.out, by (have h := Hown8.out.2.1; rw [List.flatMap_append, List.length_append]; exact h), by (have h := Hown8.out.1; rw [List.flatMap_append, List.length_append]; exact h), Hown8.out.2.2.1, Hown8.out.2.2.2⟩
                case measure => simp [intOf]; omega
            · have e3 : ((mn : Int) / 12 == (mo : Int) / 12) = false := by rw [beq_eq_false_iff_ne]; omega
              have e3' : ¬ (mn : Int) / 12 = (mo : Int) / 12 := by omega
              have Hfx1 : Hid (fewL (mo : Int) (T.take (q + 1)) = fs) := Lib.hid (by rw [Hfx.out, decide_eq_false e3']; simp)
              have Hox1 : Hid (othL (mo : Int) (T.take (q + 1)) = os) := Lib.hid (by rw [Hox.out, decide_eq_false e3']; simp)
              go_wp2_with fail
              go_roundw
              case rel => exact ⟨q + 1, by omega, by go_num, _, _, Hfx1.out, Hox1.out, Hown.out.1, Hown.out.2.1, Hown.out.2.2.1, Hown.out.2.2.2⟩
              case measure => simp [intOf]; omega
          · have e2 : ¬ (mn : Int) < (mo : Int) := by omega
            have Hfx1 : Hid (fewL (mo : Int) (T.take (q + 1)) = fs) := Lib.hid (by rw [Hfx.out, decide_eq_false e2]; simp)
            have Hox1 : Hid (othL (mo : Int) (T.take (q + 1)) = os) := Lib.hid (by rw [Hox.out, decide_eq_false e2]; simp)
            go_wp2_with fail
            go_roundw
            case rel => exact ⟨q + 1, by omega, by go_num, _, _, Hfx1.out, Hox1.out, Hown.out.1, Hown.out.2.1, Hown.out.2.2.1, Hown.out.2.2.2⟩
            case measure => simp [intOf]; omega
        · have e1 : ¬ tp.toList = [97, 110, 110] := lit_ne h1
          have e1' : (tp.toList == [97, 110, 110]) = false := beq_eq_false_iff_ne.2 e1
          have Hfx1 : Hid (fewL (mo : Int) (T.take (q + 1)) = fs) := Lib.hid (by rw [Hfx.out, decide_eq_false h1]; simp)
          have Hox1 : Hid (othL (mo : Int) (T.take (q + 1)) = os) := Lib.hid (by rw [Hox.out, decide_eq_false h1]; simp)
          go_wp2_with fail
          go_roundw
          case rel => exact ⟨q + 1, by omega, by go_num, _, _, Hfx1.out, Hox1.out, Hown.out.1, Hown.out.2.1, Hown.out.2.2.1, Hown.out.2.2.2⟩
          case measure => simp [intOf]; omega
      · obtain rfl : N = q := by omega
        have hc1 : ¬ (N : Int) < (N : Int) := by omega
        have hfs2 : fewL (mo : Int) T = fs := by rw [← hfs, List.take_of_length_le (by rw [HN.out]; exact Nat.le_refl _)]
        have hos2 : othL (mo : Int) T = os := by rw [← hos, List.take_of_length_le (by rw [HN.out]; exact Nat.le_refl _)]
        have hfl : fs.length ≤ 20 := by rw [← hfs2]; exact Nat.le_trans (few_len _ _) (by rw [HN.out]; exact hN20)
        have hol : os.length ≤ 20 := by rw [← hos2]; exact Nat.le_trans (oth_len _ _) (by rw [HN.out]; exact hN20)
        have hfsz : ∀ t ∈ fs, t.e.size ≤ maxLen ∧ t.p.size ≤ maxLen := by rw [← hfs2]; exact fun t ht => HL.out.sz t (List.mem_filter.1 ht).1
        have hosz : ∀ t ∈ os, t.e.size ≤ maxLen ∧ t.p.size ≤ maxLen := by rw [← hos2]; exact fun t ht => HL.out.sz t (List.mem_filter.1 (List.mem_filter.1 ht).1).1
        have hfa : befT ⟨#[97, 110, 110]⟩ (mo : Int) fs = befT ⟨#[97, 110, 110]⟩ (mo : Int) T := by rw [← hfs2]; exact bef_few_ _ _ _
        have hxo : sumA TotD.g (befT ⟨#[97, 110, 110]⟩ (mo : Int) os) = x := by rw [← hos2]; exact HB.out.hx
        have hyo : sumA TotD.x (befT ⟨#[97, 110, 110]⟩ (mo : Int) os) = y := by rw [← hos2]; exact HB.out.hy
        have Hf := Lib.hid (And.intro hfsz (And.intro hosz (And.intro hfa (And.intro hxo hyo))))
        obtain ⟨A8, c8, rfl, sl8, _, _⟩ := own_slice2 ownF
        obtain ⟨A9, c9, rfl, sl9, _, _⟩ := own_slice2 ownO
        have H6B := Lib.hid hBr
        have H6 := Lib.hid (And.intro (bgo H5.out.1 hBr) (And.intro (H5.out.2.go hBr) (And.intro sl8 sl9)))
        obtain ⟨w6, hw6⟩ : ∃ z, z = wr := ⟨_, rfl⟩
        subst hw6
        clear hfs hos hfs2 hos2 hfsz hosz hfa hxo hyo sl8 sl9 ownF ownO hap hBr
        go_wp2_with fail
        refine (bef_at A8 fs.length c8 fs rfl (by omega) ⟨#[97, 110, 110]⟩ (mo : Int) a b (Lib.hid (by rw [Hf.out.2.2.1]; exact HB.out.ha)) (Lib.hid (by rw [Hf.out.2.2.1]; exact HB.out.hb)) (by omega) Hf.out.1 w6 H6.out.2.2.1).mono ?_
        rintro e w7 ⟨rfl, hB7⟩
        have H7B := Lib.hid hB7
        have H7 := Lib.hid (And.intro (bgo H6.out.1 hB7) (And.intro (H6.out.2.1.go hB7) (H6.out.2.2.2.go hB7)))
        clear hB7
        go_wp2_with fail
        have hz0 : ∀ f : TotD → Int, sumA f (befT ⟨#[97, 110, 110]⟩ ((mo : Int) - (mo : Int) % 12) T) = 0 := fun f => by rw [bef_none fun u _ => cnt_start (by omega) u]; rfl
        have Hz0 := Lib.hid hz0
        clear hz0
        refine (bef_at A2 N c2 T HN.out (by omega) ⟨#[97, 110, 110]⟩ ((mo : Int) - (mo : Int) % 12) 0 0 (Lib.hid (Hz0.out _)) (Lib.hid (Hz0.out _)) (by omega) HL.out.sz w7 H7.out.2.1).mono ?_
        rintro e w8 ⟨rfl, hB8⟩
        have H8B := Lib.hid hB8
        have H8 := Lib.hid (And.intro (bgo H7.out.1 hB8) (And.intro (H7.out.2.1.go hB8) (H7.out.2.2.go hB8)))
        clear hB8
        by_cases h12 : (mo : Int) % 12 = 0
        · have hab : a = 0 ∧ b = 0 := by
            rw [← HB.out.ha, ← HB.out.hb, bef_none fun u _ => cnt_none h12 (by omega) u]
            exact ⟨rfl, rfl⟩
          obtain ⟨ha0, hb0⟩ := hab
          go_wp2
          go_ret
          exact ⟨rfl, H8.out.1⟩
        · have e12 : ((mo : Int) % 12 == 0) = false := beq_eq_false_iff_ne.2 h12
          go_upto_region 22 with fail
          clear e12
          obtain ⟨pg, hpg⟩ : ∃ q, pickF gross 1000000 = q := ⟨_, rfl⟩
          obtain ⟨px, hpx⟩ : ∃ q, pickF tax 1000000 = q := ⟨_, rfl⟩
          have hpgb := pickF_lt gross 1000000 (by omega)
          have hpxb := pickF_lt tax 1000000 (by omega)
          rw [hpg] at hpgb
          rw [hpx] at hpxb
          have Hpg := Lib.hid hpg
          have Hpx := Lib.hid hpx
          have H12 := Lib.hid h12
          clear hpg hpx h12
          go_wp2_with fail
          refine (pick_at gross 1000000 pg Hpg w8 wg (by decide) (by decide)).mono ?_
          rintro e wq ⟨rfl, hwq⟩
          obtain rfl := hwq
          go_wp2_with fail
          refine (pick_at tax 1000000 px Hpx w8 wt (by decide) (by decide)).mono ?_
          rintro e wq ⟨rfl, hwq⟩
          obtain rfl := hwq
          go_upto_region 23 with fail
          obtain ⟨V, hV⟩ : ∃ z, z = w8.alloc (.cells #[.string ⟨#[97, 99, 109, 101]⟩, .string ⟨#[97, 110, 110]⟩, .int .i64 ((mo : Int) - 1), .int .i64 pg, .int .i64 px] 25) := ⟨_, rfl⟩
          obtain ⟨X, hX⟩ : ∃ z, z = w8.heap.size := ⟨_, rfl⟩
          rw [← hV]
          try rw [← hX]
          have gX : V.heap[X]? = some (.cells #[.string ⟨#[97, 99, 109, 101]⟩, .string ⟨#[97, 110, 110]⟩, .int .i64 ((mo : Int) - 1), .int .i64 pg, .int .i64 px] 25) := by rw [hV, hX]; exact World.alloc_heap_new _ _
          have hBV : Below w8.heap.size w8 V := by rw [hV]; exact bal (Below.refl _ _) _
          clear hV hX
          have hXl : X < V.heap.size := (Array.getElem?_eq_some_iff.1 gX).1
          have H9 := Lib.hid (And.intro (bgo H8.out.1 hBV) (And.intro (H8.out.2.1.go hBV) (H8.out.2.2.go hBV)))
          have hsrc : Src V 5 (.slice A2 N c2) N (T.flatMap totL5) := own_src (own_below (own_below (own_below (own_below (own_below H4.out.2 (H5B.out)) (H6B.out)) (H7B.out)) (H8B.out)) hBV)
          have GXv := Lib.hid gX
          have GX := Lib.hid (show V.drew.heap[X]? = some (.cells #[.string ⟨#[97, 99, 109, 101]⟩, .string ⟨#[97, 110, 110]⟩, .int .i64 ((mo : Int) - 1), .int .i64 pg, .int .i64 px] 25) from gX)
          have HSrc := Lib.hid hsrc
          clear gX hBV hsrc
          have hva : validTB ⟨⟨#[97, 99, 109, 101]⟩, ⟨#[97, 110, 110]⟩, (mo : Int) - 1, pg, px⟩ = true := by
            unfold validTB
            dsimp only
            rw [show isNameB ⟨#[97, 99, 109, 101]⟩ = true by decide +kernel, show isNameB ⟨#[97, 110, 110]⟩ = true by decide +kernel]
            simp
            omega
          have hls := last_sum HL.out (mo : Int) pg px hva H12.out
          rw [HB.out.hx, HB.out.hy] at hls
          have hlsz : ∀ t ∈ T ++ [(⟨⟨#[97, 99, 109, 101]⟩, ⟨#[97, 110, 110]⟩, (mo : Int) - 1, pg, px⟩ : TotD)], t.e.size ≤ maxLen ∧ t.p.size ≤ maxLen := by
            intro t ht
            rcases List.mem_append.1 ht with h | h
            · exact HL.out.sz t h
            · rw [List.mem_singleton.1 h]; exact valid_sz hva
          have Hls := Lib.hid (And.intro hls hlsz)
          have hmk : ∀ w, (Instr.makeSlice 40 (.int .i64 0) (.int .i64 21)).run Tryd.prog w = .ok (.slice (some ⟨w.heap.size, 0, none⟩) 0 21) (w.alloc (.cells mk21 25)) := fun _ => by kernel_rfl
          clear hls hlsz hva
          go_cut [27, 28] (fun p q wc => p = .int .i64 (x + pg) ∧ q = .int .i64 (y + px) ∧ Below V.heap.size V wc)
          case first =>
            refine wp_region_noPanic ?_
            refine wp_region_held_drew (S := fun W' => W'.heap[X]? = some (.cells #[.string ⟨#[97, 99, 109, 101]⟩, .string ⟨#[97, 110, 110]⟩, .int .i64 ((mo : Int) - 1), .int .i64 pg, .int .i64 px] 25)) (by kernel_rfl) GX.out (fun hHeld => ?_)
            refine wpAnyH_take (i := 1) (v := ?_) rfl (by kernel_rfl) (by kernel_rfl) (by kernel_rfl) (fun _ _ _ h => h) (Or.inl ⟨by kernel_rfl, ?_⟩) (by assumption) ?_
            rotate_left
            · intro w hSw
              (try dsimp only at hSw)
              go_simp
              first | done | with_reducible rfl
            simp only [List.getElem_toArray, List.getElem_cons_zero, List.getElem_cons_succ, Act.put, List.setIfInBounds_toArray, List.set_cons_zero, List.set_cons_succ]
            refine wpAnyH_take (i := 3) (v := ?_) rfl (by kernel_rfl) (by kernel_rfl) (by kernel_rfl) (fun _ _ _ h => h) (Or.inl ⟨by kernel_rfl, ?_⟩) (by assumption) ?_
            rotate_left
            · intro w hSw
              (try dsimp only at hSw)
              have z0 : w.cell? ⟨X, 0, none⟩ = some (.string ⟨#[97, 99, 109, 101]⟩) := by rw [Lib.cell_of_heap hSw]; rfl
              have z1 : w.cell? ⟨X, 1, none⟩ = some (.string ⟨#[97, 110, 110]⟩) := by rw [Lib.cell_of_heap hSw]; rfl
              have z2 : w.cell? ⟨X, 2, none⟩ = some (.int .i64 ((mo : Int) - 1)) := by rw [Lib.cell_of_heap hSw]; rfl
              have z3 : w.cell? ⟨X, 3, none⟩ = some (.int .i64 pg) := by rw [Lib.cell_of_heap hSw]; rfl
              have z4 : w.cell? ⟨X, 4, none⟩ = some (.int .i64 px) := by rw [Lib.cell_of_heap hSw]; rfl
              clear hSw
              go_simp
              first | done | with_reducible rfl
            simp only [List.getElem_toArray, List.getElem_cons_zero, List.getElem_cons_succ, Act.put, List.setIfInBounds_toArray, List.set_cons_zero, List.set_cons_succ]
            refine wpAnyH_take (i := 6) (v := ?_) rfl (by kernel_rfl) (by kernel_rfl) (by kernel_rfl) (fun _ _ _ h => h) (Or.inl ⟨by kernel_rfl, ?_⟩) (by assumption) ?_
            rotate_left
            · intro w hSw
              (try dsimp only at hSw)
              go_simp
              first | done | with_reducible rfl
            simp only [List.getElem_toArray, List.getElem_cons_zero, List.getElem_cons_succ, Act.put, List.setIfInBounds_toArray, List.set_cons_zero, List.set_cons_succ]
            refine wpAnyH_ready (rs := [0, 4]) (by kernel_rfl) (by simp) ?_
            refine AllReadyH.cons rfl (fun K hK => ?_) ?_
            · simp only [List.getElem_toArray, List.getElem_cons_zero, List.getElem_cons_succ]
              go_simp
              obtain ⟨w_0, hw_0⟩ : ∃ z, z = (V.alloc (.cells mk21 25)).drew := ⟨_, rfl⟩
              rw [← hw_0]
              have st_0 : Below V.heap.size V w_0 := by rw [hw_0]; exact (bal (Below.refl V.heap.size V) _).drew
              have bel_0 : Below V.heap.size V w_0 := st_0
              have hz_0 : V.heap.size < w_0.heap.size := by rw [hw_0]; simp
              have own_0 : w_0.ownsRow V.heap.size 25 5 (.slice (some ⟨V.heap.size, 0, none⟩) 0 21) 0 [] := by rw [hw_0]; exact hn_mk V mk21 21 25 5 rfl (by decide) _ (Nat.le_refl _)
              clear hw_0
              refine hK.out _ w_0 (((bel_0).block _ hXl).trans GXv.out) (fun hHeld => ?_)
              clear hK K
              try simp only [List.getElem_toArray, List.getElem_cons_zero, List.getElem_cons_succ, Act.put, List.setIfInBounds_toArray, List.set_cons_zero, List.set_cons_succ]
              refine wpAnyH_ready (rs := [2, 4]) (by kernel_rfl) (by simp) ?_
              refine AllReadyH.cons rfl (fun K hK => ?_) ?_
              · refine step_src (w0 := V) (by rfl) _ _ 40 (by rfl) 25 j0 _ 5 56 Tryd.underlying40 hj0 hy0 hy1 hy2 (by rfl) (by decide) (.slice (some ⟨V.heap.size, 0, none⟩) 0 21) (0) ([]) (by rfl) own_0 bel_0 (.slice A2 N c2) (N) (T.flatMap totL5) (by rfl) (HSrc.out.go bel_0) (tots_one _) (by unfold maxLen; omega) (by omega) ?_
                intro v_0_2 w_0_2 own_0_2 bel_0_2 kept_0_2
                refine hK.out _ w_0_2 (((bel_0_2).block _ hXl).trans GXv.out) (fun hHeld => ?_)
                clear hK K
                try simp only [List.getElem_toArray, List.getElem_cons_zero, List.getElem_cons_succ, Act.put, List.setIfInBounds_toArray, List.set_cons_zero, List.set_cons_succ]
                refine wpAnyH_ready (rs := [4]) (by kernel_rfl) (by simp) ?_
                refine AllReadyH.cons rfl (fun K hK => ?_) ?_
                · simp only [List.getElem_toArray, List.getElem_cons_zero, List.getElem_cons_succ]
                  go_simp
                  obtain ⟨w_0_2_4, hw_0_2_4⟩ : ∃ z, z = (w_0_2.alloc (.cells #[.string ⟨#[97, 99, 109, 101]⟩, .string ⟨#[97, 110, 110]⟩, .int .i64 ((mo : Int) - 1), .int .i64 pg, .int .i64 px] 25)) := ⟨_, rfl⟩
                  rw [← hw_0_2_4]
                  have st_0_2_4 : Below w_0_2.heap.size w_0_2 w_0_2_4 := by rw [hw_0_2_4]; exact (bal (Below.refl w_0_2.heap.size w_0_2) _)
                  have bel_0_2_4 : Below V.heap.size V w_0_2_4 := bgo bel_0_2 st_0_2_4
                  have hz_0_2_4 : w_0_2.heap.size < w_0_2_4.heap.size := by rw [hw_0_2_4]; simp
                  have gb_0_2_4 : w_0_2_4.heap[w_0_2.heap.size]? = some (.cells #[.string ⟨#[97, 99, 109, 101]⟩, .string ⟨#[97, 110, 110]⟩, .int .i64 ((mo : Int) - 1), .int .i64 pg, .int .i64 px] 25) := by rw [hw_0_2_4]; exact World.alloc_heap_new _ _
                  have own_0_2_4 := own_below own_0_2 st_0_2_4
                  clear hw_0_2_4
                  refine hK.out _ w_0_2_4 (((bel_0_2_4).block _ hXl).trans GXv.out) (fun hHeld => ?_)
                  clear hK K
                  try simp only [List.getElem_toArray, List.getElem_cons_zero, List.getElem_cons_succ, Act.put, List.setIfInBounds_toArray, List.set_cons_zero, List.set_cons_succ]
                  refine wpAnyH_ready (rs := [5]) (by kernel_rfl) (by simp) ?_
                  refine AllReadyH.cons rfl (fun K hK => ?_) ?_
                  · refine step_src (w0 := V) (by rfl) _ _ 40 (by rfl) 25 j0 _ 5 56 Tryd.underlying40 hj0 hy0 hy1 hy2 (by rfl) (by decide) (v_0_2) (0 + N) ([] ++ (T.flatMap totL5)) (by rfl) own_0_2_4 bel_0_2_4 (.slice (some ⟨w_0_2.heap.size, 0, none⟩) 1 1) (1) ([.string ⟨#[97, 99, 109, 101]⟩, .string ⟨#[97, 110, 110]⟩, .int .i64 ((mo : Int) - 1), .int .i64 pg, .int .i64 px]) (by rfl) (src_blk gb_0_2_4 rfl) (by simp [Value.oneCell']) (by unfold maxLen; omega) (by omega) ?_
                    intro v_0_2_4_5 w_0_2_4_5 own_0_2_4_5 bel_0_2_4_5 kept_0_2_4_5
                    have ownT_0_2_4_5 : w_0_2_4_5.ownsRow V.heap.size 25 5 v_0_2_4_5 (N + 1) ((T ++ [(⟨⟨#[97, 99, 109, 101]⟩, ⟨#[97, 110, 110]⟩, (mo : Int) - 1, pg, px⟩ : TotD)]).flatMap totL5) := by (have h := own_0_2_4_5; rw [List.flatMap_append]; rw [List.nil_append, show 0 + N + 1 = N + 1 by omega] at h; exact h)
                    obtain ⟨A_0_2_4_5, c_0_2_4_5, hv_0_2_4_5, sl_0_2_4_5, _, _⟩ := own_slice2 ownT_0_2_4_5
                    subst hv_0_2_4_5
                    refine hK.out _ w_0_2_4_5 (((bel_0_2_4_5).block _ hXl).trans GXv.out) (fun hHeld => ?_)
                    clear hK K
                    try simp only [List.getElem_toArray, List.getElem_cons_zero, List.getElem_cons_succ, Act.put, List.setIfInBounds_toArray, List.set_cons_zero, List.set_cons_succ]
                    refine wpAnyH_ready (rs := [7]) (by kernel_rfl) (by simp) ?_
                    refine AllReadyH.cons rfl (fun K hK => ?_) ?_
                    · simp only [List.getElem_toArray, List.getElem_cons_zero, List.getElem_cons_succ]
                      go_simp
                      (with_reducible refine (bef_at A_0_2_4_5 (N + 1) c_0_2_4_5 (T ++ [(⟨⟨#[97, 99, 109, 101]⟩, ⟨#[97, 110, 110]⟩, (mo : Int) - 1, pg, px⟩ : TotD)]) (by rw [List.length_append, HN.out, List.length_singleton]) (by omega) ⟨#[97, 110, 110]⟩ (mo : Int) (x + pg) (y + px) (Lib.hid Hls.out.1.1) (Lib.hid Hls.out.1.2) (by omega) Hls.out.2 w_0_2_4_5 sl_0_2_4_5).mono ?_)
                      rintro e w_0_2_4_5_7 ⟨rfl, st_0_2_4_5_7⟩
                      dsimp only
                      have bel_0_2_4_5_7 := bgo bel_0_2_4_5 st_0_2_4_5_7
                      refine hK.out _ w_0_2_4_5_7 (((bel_0_2_4_5_7).block _ hXl).trans GXv.out) (fun hHeld => ?_)
                      clear hK K
                      try simp only [List.getElem_toArray, List.getElem_cons_zero, List.getElem_cons_succ, Act.put, List.setIfInBounds_toArray, List.set_cons_zero, List.set_cons_succ]
                      refine wpAnyH_take (i := 8) (v := ?_) rfl (by kernel_rfl) (by kernel_rfl) (by kernel_rfl) (fun _ _ _ h => h) (Or.inl ⟨by kernel_rfl, ?_⟩) (by assumption) ?_
                      rotate_left
                      · intro w hSw
                        (try dsimp only at hSw)
                        go_simp
                        first | done | with_reducible rfl
                      simp only [List.getElem_toArray, List.getElem_cons_zero, List.getElem_cons_succ, Act.put, List.setIfInBounds_toArray, List.set_cons_zero, List.set_cons_succ]
                      refine wpAnyH_take (i := 9) (v := ?_) rfl (by kernel_rfl) (by kernel_rfl) (by kernel_rfl) (fun _ _ _ h => h) (Or.inl ⟨by kernel_rfl, ?_⟩) (by assumption) ?_
                      rotate_left
                      · intro w hSw
                        (try dsimp only at hSw)
                        go_simp
                        first | done | with_reducible rfl
                      simp only [List.getElem_toArray, List.getElem_cons_zero, List.getElem_cons_succ, Act.put, List.setIfInBounds_toArray, List.set_cons_zero, List.set_cons_succ]
                      refine wpAnyH_take (i := 10) (v := ?_) rfl (by kernel_rfl) (by kernel_rfl) (by kernel_rfl) (fun _ _ _ h => h) (Or.inl ⟨by kernel_rfl, ?_⟩) (by assumption) ?_
                      rotate_left
                      · intro w hSw
                        (try dsimp only at hSw)
                        go_simp
                        first | done | with_reducible rfl
                      simp only [List.getElem_toArray, List.getElem_cons_zero, List.getElem_cons_succ, Act.put, List.setIfInBounds_toArray, List.set_cons_zero, List.set_cons_succ]
                      refine wpAnyH_take (i := 11) (v := ?_) rfl (by kernel_rfl) (by kernel_rfl) (by kernel_rfl) (fun _ _ _ h => h) (Or.inl ⟨by kernel_rfl, ?_⟩) (by assumption) ?_
                      rotate_left
                      · intro w hSw
                        (try dsimp only at hSw)
                        go_simp
                        first | done | with_reducible rfl
                      simp only [List.getElem_toArray, List.getElem_cons_zero, List.getElem_cons_succ, Act.put, List.setIfInBounds_toArray, List.set_cons_zero, List.set_cons_succ]
                      refine wpAnyH_take (i := 12) (v := ?_) rfl (by kernel_rfl) (by kernel_rfl) (by kernel_rfl) (fun _ _ _ h => h) (Or.inl ⟨by kernel_rfl, ?_⟩) (by assumption) ?_
                      rotate_left
                      · intro w hSw
                        (try dsimp only at hSw)
                        go_simp
                        first | done | with_reducible rfl
                      simp only [List.getElem_toArray, List.getElem_cons_zero, List.getElem_cons_succ, Act.put, List.setIfInBounds_toArray, List.set_cons_zero, List.set_cons_succ]
                      refine wpAnyH_done (by kernel_rfl) ?_ _
                      dsimp only [NoPanic]
                      clear hHeld
                      go_wp2_with fail
                      go_meet
                      exact ⟨rfl, rfl, bel_0_2_4_5_7⟩
                    exact AllReadyH.nil
                  exact AllReadyH.nil
                exact AllReadyH.nil
              refine AllReadyH.cons rfl (fun K hK => ?_) ?_
              · simp only [List.getElem_toArray, List.getElem_cons_zero, List.getElem_cons_succ]
                go_simp
                obtain ⟨w_0_4, hw_0_4⟩ : ∃ z, z = (w_0.alloc (.cells #[.string ⟨#[97, 99, 109, 101]⟩, .string ⟨#[97, 110, 110]⟩, .int .i64 ((mo : Int) - 1), .int .i64 pg, .int .i64 px] 25)) := ⟨_, rfl⟩
                rw [← hw_0_4]
                have st_0_4 : Below w_0.heap.size w_0 w_0_4 := by rw [hw_0_4]; exact (bal (Below.refl w_0.heap.size w_0) _)
                have bel_0_4 : Below V.heap.size V w_0_4 := bgo bel_0 st_0_4
                have hz_0_4 : w_0.heap.size < w_0_4.heap.size := by rw [hw_0_4]; simp
                have gb_0_4 : w_0_4.heap[w_0.heap.size]? = some (.cells #[.string ⟨#[97, 99, 109, 101]⟩, .string ⟨#[97, 110, 110]⟩, .int .i64 ((mo : Int) - 1), .int .i64 pg, .int .i64 px] 25) := by rw [hw_0_4]; exact World.alloc_heap_new _ _
                have own_0_4 := own_below own_0 st_0_4
                clear hw_0_4
                refine hK.out _ w_0_4 (((bel_0_4).block _ hXl).trans GXv.out) (fun hHeld => ?_)
                clear hK K
                try simp only [List.getElem_toArray, List.getElem_cons_zero, List.getElem_cons_succ, Act.put, List.setIfInBounds_toArray, List.set_cons_zero, List.set_cons_succ]
                refine wpAnyH_ready (rs := [2]) (by kernel_rfl) (by simp) ?_
                refine AllReadyH.cons rfl (fun K hK => ?_) ?_
                · refine step_src (w0 := V) (by rfl) _ _ 40 (by rfl) 25 j0 _ 5 56 Tryd.underlying40 hj0 hy0 hy1 hy2 (by rfl) (by decide) (.slice (some ⟨V.heap.size, 0, none⟩) 0 21) (0) ([]) (by rfl) own_0_4 bel_0_4 (.slice A2 N c2) (N) (T.flatMap totL5) (by rfl) (HSrc.out.go bel_0_4) (tots_one _) (by unfold maxLen; omega) (by omega) ?_
                  intro v_0_4_2 w_0_4_2 own_0_4_2 bel_0_4_2 kept_0_4_2
                  have gb_0_4_2 := (kept_0_4_2.2 _ (Array.getElem?_eq_some_iff.1 gb_0_4).1 (fun e => by (have e2 := Option.some.inj e; dsimp only at e2; omega))).trans gb_0_4
                  refine hK.out _ w_0_4_2 (((bel_0_4_2).block _ hXl).trans GXv.out) (fun hHeld => ?_)
                  clear hK K
                  try simp only [List.getElem_toArray, List.getElem_cons_zero, List.getElem_cons_succ, Act.put, List.setIfInBounds_toArray, List.set_cons_zero, List.set_cons_succ]
                  refine wpAnyH_ready (rs := [5]) (by kernel_rfl) (by simp) ?_
                  refine AllReadyH.cons rfl (fun K hK => ?_) ?_
                  · refine step_src (w0 := V) (by rfl) _ _ 40 (by rfl) 25 j0 _ 5 56 Tryd.underlying40 hj0 hy0 hy1 hy2 (by rfl) (by decide) (v_0_4_2) (0 + N) ([] ++ (T.flatMap totL5)) (by rfl) own_0_4_2 bel_0_4_2 (.slice (some ⟨w_0.heap.size, 0, none⟩) 1 1) (1) ([.string ⟨#[97, 99, 109, 101]⟩, .string ⟨#[97, 110, 110]⟩, .int .i64 ((mo : Int) - 1), .int .i64 pg, .int .i64 px]) (by rfl) (src_blk gb_0_4_2 rfl) (by simp [Value.oneCell']) (by unfold maxLen; omega) (by omega) ?_
                    intro v_0_4_2_5 w_0_4_2_5 own_0_4_2_5 bel_0_4_2_5 kept_0_4_2_5
                    have ownT_0_4_2_5 : w_0_4_2_5.ownsRow V.heap.size 25 5 v_0_4_2_5 (N + 1) ((T ++ [(⟨⟨#[97, 99, 109, 101]⟩, ⟨#[97, 110, 110]⟩, (mo : Int) - 1, pg, px⟩ : TotD)]).flatMap totL5) := by (have h := own_0_4_2_5; rw [List.flatMap_append]; rw [List.nil_append, show 0 + N + 1 = N + 1 by omega] at h; exact h)
                    obtain ⟨A_0_4_2_5, c_0_4_2_5, hv_0_4_2_5, sl_0_4_2_5, _, _⟩ := own_slice2 ownT_0_4_2_5
                    subst hv_0_4_2_5
                    refine hK.out _ w_0_4_2_5 (((bel_0_4_2_5).block _ hXl).trans GXv.out) (fun hHeld => ?_)
                    clear hK K
                    try simp only [List.getElem_toArray, List.getElem_cons_zero, List.getElem_cons_succ, Act.put, List.setIfInBounds_toArray, List.set_cons_zero, List.set_cons_succ]
                    refine wpAnyH_ready (rs := [7]) (by kernel_rfl) (by simp) ?_
                    refine AllReadyH.cons rfl (fun K hK => ?_) ?_
                    · simp only [List.getElem_toArray, List.getElem_cons_zero, List.getElem_cons_succ]
                      go_simp
                      (with_reducible refine (bef_at A_0_4_2_5 (N + 1) c_0_4_2_5 (T ++ [(⟨⟨#[97, 99, 109, 101]⟩, ⟨#[97, 110, 110]⟩, (mo : Int) - 1, pg, px⟩ : TotD)]) (by rw [List.length_append, HN.out, List.length_singleton]) (by omega) ⟨#[97, 110, 110]⟩ (mo : Int) (x + pg) (y + px) (Lib.hid Hls.out.1.1) (Lib.hid Hls.out.1.2) (by omega) Hls.out.2 w_0_4_2_5 sl_0_4_2_5).mono ?_)
                      rintro e w_0_4_2_5_7 ⟨rfl, st_0_4_2_5_7⟩
                      dsimp only
                      have bel_0_4_2_5_7 := bgo bel_0_4_2_5 st_0_4_2_5_7
                      refine hK.out _ w_0_4_2_5_7 (((bel_0_4_2_5_7).block _ hXl).trans GXv.out) (fun hHeld => ?_)
                      clear hK K
                      try simp only [List.getElem_toArray, List.getElem_cons_zero, List.getElem_cons_succ, Act.put, List.setIfInBounds_toArray, List.set_cons_zero, List.set_cons_succ]
                      refine wpAnyH_take (i := 8) (v := ?_) rfl (by kernel_rfl) (by kernel_rfl) (by kernel_rfl) (fun _ _ _ h => h) (Or.inl ⟨by kernel_rfl, ?_⟩) (by assumption) ?_
                      rotate_left
                      · intro w hSw
                        (try dsimp only at hSw)
                        go_simp
                        first | done | with_reducible rfl
                      simp only [List.getElem_toArray, List.getElem_cons_zero, List.getElem_cons_succ, Act.put, List.setIfInBounds_toArray, List.set_cons_zero, List.set_cons_succ]
                      refine wpAnyH_take (i := 9) (v := ?_) rfl (by kernel_rfl) (by kernel_rfl) (by kernel_rfl) (fun _ _ _ h => h) (Or.inl ⟨by kernel_rfl, ?_⟩) (by assumption) ?_
                      rotate_left
                      · intro w hSw
                        (try dsimp only at hSw)
                        go_simp
                        first | done | with_reducible rfl
                      simp only [List.getElem_toArray, List.getElem_cons_zero, List.getElem_cons_succ, Act.put, List.setIfInBounds_toArray, List.set_cons_zero, List.set_cons_succ]
                      refine wpAnyH_take (i := 10) (v := ?_) rfl (by kernel_rfl) (by kernel_rfl) (by kernel_rfl) (fun _ _ _ h => h) (Or.inl ⟨by kernel_rfl, ?_⟩) (by assumption) ?_
                      rotate_left
                      · intro w hSw
                        (try dsimp only at hSw)
                        go_simp
                        first | done | with_reducible rfl
                      simp only [List.getElem_toArray, List.getElem_cons_zero, List.getElem_cons_succ, Act.put, List.setIfInBounds_toArray, List.set_cons_zero, List.set_cons_succ]
                      refine wpAnyH_take (i := 11) (v := ?_) rfl (by kernel_rfl) (by kernel_rfl) (by kernel_rfl) (fun _ _ _ h => h) (Or.inl ⟨by kernel_rfl, ?_⟩) (by assumption) ?_
                      rotate_left
                      · intro w hSw
                        (try dsimp only at hSw)
                        go_simp
                        first | done | with_reducible rfl
                      simp only [List.getElem_toArray, List.getElem_cons_zero, List.getElem_cons_succ, Act.put, List.setIfInBounds_toArray, List.set_cons_zero, List.set_cons_succ]
                      refine wpAnyH_take (i := 12) (v := ?_) rfl (by kernel_rfl) (by kernel_rfl) (by kernel_rfl) (fun _ _ _ h => h) (Or.inl ⟨by kernel_rfl, ?_⟩) (by assumption) ?_
                      rotate_left
                      · intro w hSw
                        (try dsimp only at hSw)
                        go_simp
                        first | done | with_reducible rfl
                      simp only [List.getElem_toArray, List.getElem_cons_zero, List.getElem_cons_succ, Act.put, List.setIfInBounds_toArray, List.set_cons_zero, List.set_cons_succ]
                      refine wpAnyH_done (by kernel_rfl) ?_ _
                      dsimp only [NoPanic]
                      clear hHeld
                      go_wp2_with fail
                      go_meet
                      exact ⟨rfl, rfl, bel_0_4_2_5_7⟩
                    exact AllReadyH.nil
                  exact AllReadyH.nil
                exact AllReadyH.nil
              exact AllReadyH.nil
            refine AllReadyH.cons rfl (fun K hK => ?_) ?_
            · simp only [List.getElem_toArray, List.getElem_cons_zero, List.getElem_cons_succ]
              go_simp
              obtain ⟨w_4, hw_4⟩ : ∃ z, z = (V.alloc (.cells #[.string ⟨#[97, 99, 109, 101]⟩, .string ⟨#[97, 110, 110]⟩, .int .i64 ((mo : Int) - 1), .int .i64 pg, .int .i64 px] 25)).drew := ⟨_, rfl⟩
              rw [← hw_4]
              have st_4 : Below V.heap.size V w_4 := by rw [hw_4]; exact (bal (Below.refl V.heap.size V) _).drew
              have bel_4 : Below V.heap.size V w_4 := st_4
              have hz_4 : V.heap.size < w_4.heap.size := by rw [hw_4]; simp
              have gb_4 : w_4.heap[V.heap.size]? = some (.cells #[.string ⟨#[97, 99, 109, 101]⟩, .string ⟨#[97, 110, 110]⟩, .int .i64 ((mo : Int) - 1), .int .i64 pg, .int .i64 px] 25) := by rw [hw_4]; exact World.alloc_heap_new _ _
              clear hw_4
              refine hK.out _ w_4 (((bel_4).block _ hXl).trans GXv.out) (fun hHeld => ?_)
              clear hK K
              try simp only [List.getElem_toArray, List.getElem_cons_zero, List.getElem_cons_succ, Act.put, List.setIfInBounds_toArray, List.set_cons_zero, List.set_cons_succ]
              refine wpAnyH_ready (rs := [0]) (by kernel_rfl) (by simp) ?_
              refine AllReadyH.cons rfl (fun K hK => ?_) ?_
              · simp only [List.getElem_toArray, List.getElem_cons_zero, List.getElem_cons_succ]
                go_simp
                obtain ⟨w_4_0, hw_4_0⟩ : ∃ z, z = (w_4.alloc (.cells mk21 25)) := ⟨_, rfl⟩
                rw [← hw_4_0]
                have st_4_0 : Below w_4.heap.size w_4 w_4_0 := by rw [hw_4_0]; exact (bal (Below.refl w_4.heap.size w_4) _)
                have bel_4_0 : Below V.heap.size V w_4_0 := bgo bel_4 st_4_0
                have hz_4_0 : w_4.heap.size < w_4_0.heap.size := by rw [hw_4_0]; simp
                have own_4_0 : w_4_0.ownsRow V.heap.size 25 5 (.slice (some ⟨w_4.heap.size, 0, none⟩) 0 21) 0 [] := by rw [hw_4_0]; exact hn_mk w_4 mk21 21 25 5 rfl (by decide) _ (bel_4.size)
                have gb_4_0 := (st_4_0.block _ (Array.getElem?_eq_some_iff.1 gb_4).1).trans gb_4
                clear hw_4_0
                refine hK.out _ w_4_0 (((bel_4_0).block _ hXl).trans GXv.out) (fun hHeld => ?_)
                clear hK K
                try simp only [List.getElem_toArray, List.getElem_cons_zero, List.getElem_cons_succ, Act.put, List.setIfInBounds_toArray, List.set_cons_zero, List.set_cons_succ]
                refine wpAnyH_ready (rs := [2]) (by kernel_rfl) (by simp) ?_
                refine AllReadyH.cons rfl (fun K hK => ?_) ?_
                · refine step_src (w0 := V) (by rfl) _ _ 40 (by rfl) 25 j0 _ 5 56 Tryd.underlying40 hj0 hy0 hy1 hy2 (by rfl) (by decide) (.slice (some ⟨w_4.heap.size, 0, none⟩) 0 21) (0) ([]) (by rfl) own_4_0 bel_4_0 (.slice A2 N c2) (N) (T.flatMap totL5) (by rfl) (HSrc.out.go bel_4_0) (tots_one _) (by unfold maxLen; omega) (by omega) ?_
                  intro v_4_0_2 w_4_0_2 own_4_0_2 bel_4_0_2 kept_4_0_2
                  have gb_4_0_2 := (kept_4_0_2.2 _ (Array.getElem?_eq_some_iff.1 gb_4_0).1 (fun e => by (have e2 := Option.some.inj e; dsimp only at e2; omega))).trans gb_4_0
                  refine hK.out _ w_4_0_2 (((bel_4_0_2).block _ hXl).trans GXv.out) (fun hHeld => ?_)
                  clear hK K
                  try simp only [List.getElem_toArray, List.getElem_cons_zero, List.getElem_cons_succ, Act.put, List.setIfInBounds_toArray, List.set_cons_zero, List.set_cons_succ]
                  refine wpAnyH_ready (rs := [5]) (by kernel_rfl) (by simp) ?_
                  refine AllReadyH.cons rfl (fun K hK => ?_) ?_
                  · refine step_src (w0 := V) (by rfl) _ _ 40 (by rfl) 25 j0 _ 5 56 Tryd.underlying40 hj0 hy0 hy1 hy2 (by rfl) (by decide) (v_4_0_2) (0 + N) ([] ++ (T.flatMap totL5)) (by rfl) own_4_0_2 bel_4_0_2 (.slice (some ⟨V.heap.size, 0, none⟩) 1 1) (1) ([.string ⟨#[97, 99, 109, 101]⟩, .string ⟨#[97, 110, 110]⟩, .int .i64 ((mo : Int) - 1), .int .i64 pg, .int .i64 px]) (by rfl) (src_blk gb_4_0_2 rfl) (by simp [Value.oneCell']) (by unfold maxLen; omega) (by omega) ?_
                    intro v_4_0_2_5 w_4_0_2_5 own_4_0_2_5 bel_4_0_2_5 kept_4_0_2_5
                    have ownT_4_0_2_5 : w_4_0_2_5.ownsRow V.heap.size 25 5 v_4_0_2_5 (N + 1) ((T ++ [(⟨⟨#[97, 99, 109, 101]⟩, ⟨#[97, 110, 110]⟩, (mo : Int) - 1, pg, px⟩ : TotD)]).flatMap totL5) := by (have h := own_4_0_2_5; rw [List.flatMap_append]; rw [List.nil_append, show 0 + N + 1 = N + 1 by omega] at h; exact h)
                    obtain ⟨A_4_0_2_5, c_4_0_2_5, hv_4_0_2_5, sl_4_0_2_5, _, _⟩ := own_slice2 ownT_4_0_2_5
                    subst hv_4_0_2_5
                    refine hK.out _ w_4_0_2_5 (((bel_4_0_2_5).block _ hXl).trans GXv.out) (fun hHeld => ?_)
                    clear hK K
                    try simp only [List.getElem_toArray, List.getElem_cons_zero, List.getElem_cons_succ, Act.put, List.setIfInBounds_toArray, List.set_cons_zero, List.set_cons_succ]
                    refine wpAnyH_ready (rs := [7]) (by kernel_rfl) (by simp) ?_
                    refine AllReadyH.cons rfl (fun K hK => ?_) ?_
                    · simp only [List.getElem_toArray, List.getElem_cons_zero, List.getElem_cons_succ]
                      go_simp
                      (with_reducible refine (bef_at A_4_0_2_5 (N + 1) c_4_0_2_5 (T ++ [(⟨⟨#[97, 99, 109, 101]⟩, ⟨#[97, 110, 110]⟩, (mo : Int) - 1, pg, px⟩ : TotD)]) (by rw [List.length_append, HN.out, List.length_singleton]) (by omega) ⟨#[97, 110, 110]⟩ (mo : Int) (x + pg) (y + px) (Lib.hid Hls.out.1.1) (Lib.hid Hls.out.1.2) (by omega) Hls.out.2 w_4_0_2_5 sl_4_0_2_5).mono ?_)
                      rintro e w_4_0_2_5_7 ⟨rfl, st_4_0_2_5_7⟩
                      dsimp only
                      have bel_4_0_2_5_7 := bgo bel_4_0_2_5 st_4_0_2_5_7
                      refine hK.out _ w_4_0_2_5_7 (((bel_4_0_2_5_7).block _ hXl).trans GXv.out) (fun hHeld => ?_)
                      clear hK K
                      try simp only [List.getElem_toArray, List.getElem_cons_zero, List.getElem_cons_succ, Act.put, List.setIfInBounds_toArray, List.set_cons_zero, List.set_cons_succ]
                      refine wpAnyH_take (i := 8) (v := ?_) rfl (by kernel_rfl) (by kernel_rfl) (by kernel_rfl) (fun _ _ _ h => h) (Or.inl ⟨by kernel_rfl, ?_⟩) (by assumption) ?_
                      rotate_left
                      · intro w hSw
                        (try dsimp only at hSw)
                        go_simp
                        first | done | with_reducible rfl
                      simp only [List.getElem_toArray, List.getElem_cons_zero, List.getElem_cons_succ, Act.put, List.setIfInBounds_toArray, List.set_cons_zero, List.set_cons_succ]
                      refine wpAnyH_take (i := 9) (v := ?_) rfl (by kernel_rfl) (by kernel_rfl) (by kernel_rfl) (fun _ _ _ h => h) (Or.inl ⟨by kernel_rfl, ?_⟩) (by assumption) ?_
                      rotate_left
                      · intro w hSw
                        (try dsimp only at hSw)
                        go_simp
                        first | done | with_reducible rfl
                      simp only [List.getElem_toArray, List.getElem_cons_zero, List.getElem_cons_succ, Act.put, List.setIfInBounds_toArray, List.set_cons_zero, List.set_cons_succ]
                      refine wpAnyH_take (i := 10) (v := ?_) rfl (by kernel_rfl) (by kernel_rfl) (by kernel_rfl) (fun _ _ _ h => h) (Or.inl ⟨by kernel_rfl, ?_⟩) (by assumption) ?_
                      rotate_left
                      · intro w hSw
                        (try dsimp only at hSw)
                        go_simp
                        first | done | with_reducible rfl
                      simp only [List.getElem_toArray, List.getElem_cons_zero, List.getElem_cons_succ, Act.put, List.setIfInBounds_toArray, List.set_cons_zero, List.set_cons_succ]
                      refine wpAnyH_take (i := 11) (v := ?_) rfl (by kernel_rfl) (by kernel_rfl) (by kernel_rfl) (fun _ _ _ h => h) (Or.inl ⟨by kernel_rfl, ?_⟩) (by assumption) ?_
                      rotate_left
                      · intro w hSw
                        (try dsimp only at hSw)
                        go_simp
                        first | done | with_reducible rfl
                      simp only [List.getElem_toArray, List.getElem_cons_zero, List.getElem_cons_succ, Act.put, List.setIfInBounds_toArray, List.set_cons_zero, List.set_cons_succ]
                      refine wpAnyH_take (i := 12) (v := ?_) rfl (by kernel_rfl) (by kernel_rfl) (by kernel_rfl) (fun _ _ _ h => h) (Or.inl ⟨by kernel_rfl, ?_⟩) (by assumption) ?_
                      rotate_left
                      · intro w hSw
                        (try dsimp only at hSw)
                        go_simp
                        first | done | with_reducible rfl
                      simp only [List.getElem_toArray, List.getElem_cons_zero, List.getElem_cons_succ, Act.put, List.setIfInBounds_toArray, List.set_cons_zero, List.set_cons_succ]
                      refine wpAnyH_done (by kernel_rfl) ?_ _
                      dsimp only [NoPanic]
                      clear hHeld
                      go_wp2_with fail
                      go_meet
                      exact ⟨rfl, rfl, bel_4_0_2_5_7⟩
                    exact AllReadyH.nil
                  exact AllReadyH.nil
                exact AllReadyH.nil
              exact AllReadyH.nil
            exact AllReadyH.nil
          case rest =>
            obtain ⟨rfl, rfl, hBc⟩ := hcut
            obtain ⟨wd, hwd⟩ : ∃ z, z = wc := ⟨_, rfl⟩
            subst hwd
            have Hd := Lib.hid (And.intro (bgo H9.out.1 hBc) (H9.out.2.2.go hBc))
            have gX2 := (hBc.block _ hXl).trans GXv.out
            clear hBc
            go_wp2_with fail
            refine (bef_at A9 os.length c9 os rfl (by omega) ⟨#[97, 110, 110]⟩ (mo : Int) x y (Lib.hid Hf.out.2.2.2.1) (Lib.hid Hf.out.2.2.2.2) (by omega) Hf.out.2.1 wd Hd.out.2).mono ?_
            rintro e we ⟨rfl, hBe⟩
            have gX3 := (hBe.block _ (Array.getElem?_eq_some_iff.1 gX2).1).trans gX2
            have z3 : we.cell? ⟨X, 3, none⟩ = some (.int .i64 pg) := by rw [Lib.cell_of_heap gX3]; rfl
            have z4 : we.cell? ⟨X, 4, none⟩ = some (.int .i64 px) := by rw [Lib.cell_of_heap gX3]; rfl
            have hBwe := bgo Hd.out.1 hBe
            clear gX2 gX3 hBe
            go_wp2
            go_ret
            exact ⟨rfl, hBwe⟩
end Go.Proofs.YtmebllhkfepkdaaDoor
