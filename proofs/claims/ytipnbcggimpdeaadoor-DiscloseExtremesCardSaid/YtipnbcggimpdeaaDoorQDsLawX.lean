/- The walk of DiscloseExtremes. -/
import Derived.Test.YtipnbcggimpdeaaDoorQ24
namespace Go.Proofs.YtipnbcggimpdeaaDoor
open Go.RowKit Go.Shelf
set_option linter.unusedVariables false
set_option linter.unusedSimpArgs false
set_option maxRecDepth 100000
def allL (k : Nat) : List Int := (List.range k).map fun (j : Nat) => (j : Int)
theorem allL_len (k : Nat) : (allL k).length = k := by simp [allL]
theorem allL_snoc (k : Nat) : allL (k + 1) = allL k ++ [(k : Int)] := by simp [allL, List.range_succ]
theorem allL_get (n i : Nat) (h : i < n) : (allL n).getD i 0 = (i : Int) := by simp [allL, List.getD, h]
theorem allL_sel (n : Nat) : selB (allL n) (n : Int) = true := by
  refine decide_eq_true fun i hi => ?_
  rw [allL_len] at hi
  unfold selAt
  rw [allL_get n i hi]
  refine ⟨by omega, by omega, fun h0 => ?_⟩
  rw [allL_get n (i - 1) (by omega)]
  omega
theorem allL_hid (n j : Nat) (h : j < n) : (hidL (allL n) n).getD j false = false := by
  have : ((j : Int) ∈ allL n) := List.mem_map.2 ⟨j, List.mem_range.2 h, rfl⟩
  simp [hidL, List.getD, h, hidAt, this]
theorem sum_allL (cs : List Int) (n : Nat) : ∀ k, k ≤ n → sumH cs (hidL (allL n) n) k = 0 := by
  intro k
  induction k with
  | zero => intro _; rfl
  | succ k ih =>
    intro hk
    rw [sumH_snoc, ih (by omega), allL_hid n k (by omega)]
    rfl
/-- The sum of the first k numbers. -/
def totK (cs : List Int) : Nat → Int
  | 0 => 0
  | k + 1 => IntKind.i64.wrap (totK cs k + cs.getD k 0)
theorem totK_I64 (cs : List Int) (k : Nat) : I64 (totK cs k) := by
  cases k with
  | zero => show I64 0; unfold I64; decide
  | succ k =>
    unfold totK
    rw [IntKind.wrap_i64]
    unfold I64
    omega
theorem nil_sum (cs : List Int) (n : Nat) (hb : ∀ j, j < n → -500000000 ≤ cs.getD j 0 ∧ cs.getD j 0 ≤ 500000000) (hn : n ≤ 1024) : ∀ k, k ≤ n → sumH cs (hidL [] n) k = totK cs k ∧ -(k * 500000000 : Int) ≤ totK cs k ∧ totK cs k ≤ k * 500000000 := by
  intro k
  induction k with
  | zero => intro _; exact ⟨rfl, by simp [totK], by simp [totK]⟩
  | succ k ih =>
    intro hk
    obtain ⟨h1, h2, h3⟩ := ih (by omega)
    have h4 := hb k (by omega)
    have e : (hidL [] n).getD k false = true := by simp [hidL, List.getD, show k < n by omega, hidAt]
    have hw : totK cs (k + 1) = totK cs k + cs.getD k 0 := IntWalk.i64_in _ (by omega)
    rw [sumH_snoc, e, h1, hw]
    refine ⟨by simp, by omega, by omega⟩
theorem i64_wf {a : Int} (h : (Lit.int .i64 a).wf = true) : I64 a := bounds_i64 h
/-- What the law asks of the two errors and results. -/
theorem ext_law (q : ShtM) (seed : ByteArray) (h i : Int) :
    (showE q.person q.month q.root q.rows q.bl (allL q.rows.length) seed h i ≠ 0 → showE q.person q.month q.root q.rows q.bl (allL q.rows.length) seed h i = 1 ∧ showE q.person q.month q.root q.rows q.bl [] seed h i = 1) ∧
    (showE q.person q.month q.root q.rows q.bl (allL q.rows.length) seed h i = 0 →
      (showE q.person q.month q.root q.rows q.bl [] seed h i = 0 ∧ sumH (q.rows.map (·.c)) (hidL [] q.rows.length) q.rows.length = totK (q.rows.map (·.c)) q.rows.length) ∨
      (showE q.person q.month q.root q.rows q.bl [] seed h i = 3 ∧ (totK (q.rows.map (·.c)) q.rows.length < -500000000 ∨ 500000000 < totK (q.rows.map (·.c)) q.rows.length))) := by
  have hs0 := sum_allL (q.rows.map (·.c)) q.rows.length q.rows.length (Nat.le_refl _)
  have hsn : selB [] (q.rows.length : Int) = true := decide_eq_true fun i hi => absurd hi (Nat.not_lt_zero i)
  by_cases hc : validB q.person q.month q.rows q.bl q.root = true ∧ signB seed h i = true
  · have eA : showE q.person q.month q.root q.rows q.bl (allL q.rows.length) seed h i = 0 := by
      unfold showE
      rw [if_pos ⟨hc.1, allL_sel _, hc.2⟩, hs0]
      decide
    obtain ⟨_, ⟨hn1, hn2, _⟩, hk, _⟩ := validB_out hc.1
    have hb : ∀ j, j < q.rows.length → -500000000 ≤ (q.rows.map (·.c)).getD j 0 ∧ (q.rows.map (·.c)).getD j 0 ≤ 500000000 := by
      intro j hj
      have := (hk j hj).1
      have e : (q.rows.map (·.c)).getD j 0 = (q.rows.getD j default).c := by simp [List.getD, hj]
      rw [e]; exact this
    have hns := (nil_sum _ _ hb hn2 _ (Nat.le_refl _)).1
    rw [eA]
    refine ⟨fun hh => absurd rfl hh, fun _ => ?_⟩
    unfold showE
    rw [if_pos ⟨hc.1, hsn, hc.2⟩, hns]
    by_cases hr : -500000000 ≤ totK (q.rows.map (·.c)) q.rows.length ∧ totK (q.rows.map (·.c)) q.rows.length ≤ 500000000
    · rw [if_pos hr]; exact .inl ⟨rfl, rfl⟩
    · rw [if_neg hr]; exact .inr ⟨rfl, by omega⟩
  · have eA : showE q.person q.month q.root q.rows q.bl (allL q.rows.length) seed h i = 1 := by
      unfold showE
      rw [if_neg (fun hh => hc ⟨hh.1, hh.2.2⟩)]
    have eN : showE q.person q.month q.root q.rows q.bl [] seed h i = 1 := by
      unfold showE
      rw [if_neg (fun hh => hc ⟨hh.1, hh.2.2⟩)]
    rw [eA, eN]
    exact ⟨fun _ => ⟨rfl, rfl⟩, fun hh => by cases hh⟩
theorem info_int_x : (Tryd.prog.info? 3).map (fun i => (i.zero, i.size, i.bytes)) = some (some (.int .i64 0), 1, 8) := by kernel_rfl
set_option maxHeartbeats 8000000 in
theorem discloseExtremes_walk (q : ShtM) (seed : ByteArray) (h i : Int) (w : World) (hS : ShtOk w q) (hsd : seed.size ≤ maxLen) (wh : (Lit.int .i64 h).wf = true) (wi : (Lit.int .i64 i).wf = true) (hT : Tabs w) :
    Calls Tryd.prog 3 #[shtV q, .string seed, .int .i64 h, .int .i64 i] w fun e w' => e = .returned (.bool true) ∧ Below w.heap.size w w' := by
  have hlaw := ext_law q seed h i
  obtain ⟨person, month, A, ca, rows, B, cb, bl, root⟩ := q
  obtain ⟨hp, hm, hA, hB, hla, hlb, hrs, hbs⟩ := hS
  dsimp only at hp hm hA hB hla hlb hrs hbs hlaw
  obtain ⟨n, hn⟩ : ∃ n, rows.length = n := ⟨_, rfl⟩
  obtain ⟨m, hm'⟩ : ∃ n, bl.length = n := ⟨_, rfl⟩
  rw [hn] at hA hla hlaw
  rw [hm'] at hB hlb
  show Calls _ _ #[.agg #[.string person, .int .i64 month, .slice A rows.length ca, .slice B bl.length cb, .int .u64 root.toNat], .string seed, .int .i64 h, .int .i64 i] _ _
  rw [hn, hm']
  obtain ⟨e1, he1⟩ : ∃ e, showE person month root rows bl (allL n) seed h i = e := ⟨_, rfl⟩
  obtain ⟨e2, he2⟩ : ∃ e, showE person month root rows bl [] seed h i = e := ⟨_, rfl⟩
  rw [he1, he2] at hlaw
  obtain ⟨v, hv⟩ : ∃ v, lightB person n m rows 0 seed h = v := ⟨_, rfl⟩
  have Hv := Lib.hid hv
  have He1 := Lib.hid he1
  have He2 := Lib.hid he2
  have HL := Lib.hid hlaw
  have HA := Lib.hid hA
  have HB := Lib.hid hB
  have Hn := Lib.hid (And.intro hn hm')
  have HT := Lib.hid hT
  have Hrs := Lib.hid hrs
  have Hbs := Lib.hid hbs
  have Hml := Lib.hid (show n ≤ maxLen ∧ m ≤ maxLen from ⟨by omega, by omega⟩)
  obtain ⟨i1, hi1, hy0, hy1, hy2⟩ := info_parts info_int_x
  clear hlaw hA hB hn hm' he1 he2 hv hT hrs hbs hla hlb wh wi
  go_enter Tryd.func3, Tryd.ntmps3
  go_wp2_with fail
  have hJ := BoxAt.start w #[.string person, .int .i64 month, .slice A n ca, .slice B m cb, .int .u64 root.toNat]
  obtain ⟨V, hV⟩ : ∃ Q : World, Q = w.alloc (.cells #[.string person, .int .i64 month, .slice A n ca, .slice B m cb, .int .u64 root.toNat] 27) := ⟨_, rfl⟩
  rw [← hV] at hJ ⊢
  clear hV
  refine (head36_any V (HT.out.go hJ.be)).mono ?_
  rintro e w1 ⟨rfl, hB1⟩
  have hJ1 := hJ.go hB1
  have k0 : w1.cell? ⟨w.heap.size, 0, none⟩ = some (.string person) := by rw [Lib.cell_of_heap hJ1.b]; rfl
  have k1 : w1.cell? ⟨w.heap.size, 1, none⟩ = some (.int .i64 month) := by rw [Lib.cell_of_heap hJ1.b]; rfl
  have k2 : w1.cell? ⟨w.heap.size, 2, none⟩ = some (.slice A n ca) := by rw [Lib.cell_of_heap hJ1.b]; rfl
  have k3 : w1.cell? ⟨w.heap.size, 3, none⟩ = some (.slice B m cb) := by rw [Lib.cell_of_heap hJ1.b]; rfl
  have k4 : w1.cell? ⟨w.heap.size, 4, none⟩ = some (.int .u64 root.toNat) := by rw [Lib.cell_of_heap hJ1.b]; rfl
  have HJ1 := Lib.hid hJ1
  have hA1 := HA.out.go hJ1.be
  have HA1 := Lib.hid hA1
  clear hB1 hJ hJ1 hA1
  clear V
  go_wp2_with fail
  refine (light36_any person month root A B none ca cb 0 n m 0 rows seed h v Hn.out.1 Hv Hml.out.1 Hml.out.2 (by decide) hp hsd w1 HA1.out (fun x hx => ⟨(Hrs.out x hx).1, (Hrs.out x hx).2.1⟩)).mono ?_
  rintro e w2 ⟨rfl, hB2⟩
  have hJ2 := HJ1.out.go hB2
  have HJ2 := Lib.hid hJ2
  clear k0 k1 k2 k3 k4 hB2 hJ2 HJ1 HA1
  clear w1
  cases v with
  | false =>
    have hbe := HJ2.out.be
    go_wp2_with fail
    go_ret
    exact ⟨rfl, hbe⟩
  | true =>
    have hl := Hv.out
    unfold lightB smallB at hl
    simp only [Bool.and_eq_true, decide_eq_true_eq] at hl
    obtain ⟨⟨⟨hn24, hm33, hp40⟩, hall⟩, _, hsd80, _⟩ := hl
    have hRs : Hid (∀ x ∈ rows, x.l.size ≤ 70368744177000 ∧ x.r.size ≤ 70368744177000 ∧ I64 x.c) := Lib.hid (fun x hx => by
      have h1 := of_decide_eq_true (List.all_eq_true.1 hall x hx)
      exact ⟨by omega, by omega, (Hrs.out x hx).2.2⟩)
    clear hall
    have c2 : w2.cell? ⟨w.heap.size, 2, none⟩ = some (.slice A n ca) := by rw [Lib.cell_of_heap HJ2.out.b]; rfl
    go_wp2_with fail
    clear c2
    go_loopw [10, 11, 12] (fun a t x wr => ∃ k : Nat, k ≤ n ∧ x = .int .i64 (k : Int) ∧ t = .int .i64 (totK (rows.map (·.c)) k) ∧ wr.ownsRow w.heap.size 3 1 a k (intV (allL k)) ∧ BoxAt w #[.string person, .int .i64 month, .slice A n ca, .slice B m cb, .int .u64 root.toNat] wr) (fun _ _ x _ => n - (intOf x).toNat)
    case atStart => exact ⟨0, Nat.zero_le _, rfl, rfl, ⟨rfl, .inl ⟨rfl, rfl⟩⟩, HJ2.out⟩
    case round =>
      clear HJ2
      obtain ⟨k, hk, rfl, rfl, hown, hJ⟩ := hrel
      have HJ := Lib.hid hJ
      have Hown := Lib.hid hown
      have hBw := hJ.be
      have c2 : wr.cell? ⟨w.heap.size, 2, none⟩ = some (.slice A n ca) := by rw [Lib.cell_of_heap hJ.b]; rfl
      clear hJ hown
      by_cases hlt : k < n
      · have hlt' : (k : Int) < (n : Int) := by omega
        obtain ⟨b1, o1, rfl, hb1, hc1⟩ := HA.out.2 (by omega)
        have hkl : k < rows.length := by rw [Hn.out.1]; exact hlt
        obtain ⟨x, hx⟩ : ∃ x, rows[k] = x := ⟨_, rfl⟩
        have hget := flat_get rowV 3 (fun _ => rfl) rows k hkl
        rw [hx] at hget
        have hgc : (rows.map (·.c)).getD k 0 = x.c := by simp [List.getD, hkl, hx]
        have hsn : totK (rows.map (·.c)) (k + 1) = IntKind.i64.wrap (totK (rows.map (·.c)) k + x.c) := by show IntKind.i64.wrap (_ + _) = _; rw [hgc]
        have hy : ∀ W, Below w.heap.size w W → W.cell? ⟨b1, o1 + k * 3 + 1, none⟩ = some (.int .i64 x.c) := fun W hW => (hW.cell (p := ⟨b1, o1 + k * 3 + 1, none⟩) hb1).trans (hc1 _ _ (hget 1 (by decide)))
        obtain ⟨t, ht⟩ : ∃ t, totK (rows.map (·.c)) k = t := ⟨_, rfl⟩
        rw [ht] at hsn ⊢
        have Hsn := Lib.hid hsn
        have Hy := Lib.hid hy
        clear hc1 hget hgc hx hkl hsn ht hy
        go_wp2_with (at_builtin; refine app_one rfl _ _ 23 rfl 3 i1 (.int .i64 0) 1 8 Tryd.underlying23 hi1 hy0 hy1 hy2 rfl (by decide) _ k _ rfl Hown.out hBw [.int .i64 (k : Int)] _ _ rfl rfl (by simp [Value.oneCell']) (by unfold maxLen; omega) (by omega) ?_)
        intro v3 w3 hown3 hB3 hk3
        have hJ3 := HJ.out.app Hown.out (by decide) hk3 hB3
        have HO3 := Lib.hid hown3
        have HJ3 := Lib.hid hJ3
        have c23 : w3.cell? ⟨w.heap.size, 2, none⟩ = some (.slice (some ⟨b1, o1, none⟩) n ca) := by rw [Lib.cell_of_heap hJ3.b]; rfl
        have y1 := Hy.out w3 hB3
        clear hown3 hJ3 hk3 c2 hBw HJ Hown Hy
        go_wp2
        go_roundw
        case rel => exact ⟨k + 1, by omega, by go_num, by (rw [Hsn.out]; simp only [wrap64, IntKind.wrap_i64]; try omega), by rw [allL_snoc, intV_snoc']; exact HO3.out, HJ3.out⟩
        case measure => simp [intOf]; omega
      · obtain rfl : n = k := by omega
        obtain ⟨E, ce, hE', hSl⟩ := own_slice Hown.out
        subst hE'
        have k0 : wr.cell? ⟨w.heap.size, 0, none⟩ = some (.string person) := by rw [Lib.cell_of_heap HJ.out.b]; rfl
        have k1 : wr.cell? ⟨w.heap.size, 1, none⟩ = some (.int .i64 month) := by rw [Lib.cell_of_heap HJ.out.b]; rfl
        have k3 : wr.cell? ⟨w.heap.size, 3, none⟩ = some (.slice B m cb) := by rw [Lib.cell_of_heap HJ.out.b]; rfl
        have k4 : wr.cell? ⟨w.heap.size, 4, none⟩ = some (.int .u64 root.toNat) := by rw [Lib.cell_of_heap HJ.out.b]; rfl
        have HSl := Lib.hid hSl
        clear hSl
        go_wp2_with fail
        obtain ⟨hl1, hl2⟩ := HL.out
        by_cases he : e1 = 0
        · subst he
          have HL2 := Lib.hid (hl2 rfl)
          clear hl1 hl2
          refine (show_any person month root A B E ca cb ce n m n rows bl (allL n) seed h i 0 He1 wr (HT.out.go HJ.out.be) (HA.out.go HJ.out.be) (HB.out.go HJ.out.be) HSl.out Hn.out.1 Hn.out.2 (allL_len n) Hml.out.1 Hml.out.2 (by omega) hp hRs.out Hbs.out hsd).mono ?_
          rintro e w5 ⟨⟨ap, am, ar, aC, anc, acc, aS, ans, acs, ahid, abld, asi, aSA, ana, aca, aSB, anb, acb⟩, com, ms, ch, p, rfl, _, hok, hC5⟩
          have his := (hok rfl).1
          have hJ5 := HJ.out.go hC5
          obtain rfl : n = ans := (his.ns_.trans (allL_len n)).symm
          obtain rfl : ahid = 0 := by have := his.hid_; rw [Hn.out.1, sum_allL _ _ _ (Nat.le_refl _)] at this; exact this
          obtain rfl : abld = 0 := by have := his.bld_; rw [Hn.out.1, sum_allL _ _ _ (Nat.le_refl _)] at this; exact this
          clear his hok k0 k1 k3 k4 hC5 c2 hBw
          dsimp only [DF.cells]
          go_upto_region 12 with fail
          obtain ⟨w6, hw6⟩ : ∃ Q : World, Q = w5.alloc (.cells #[.string ap, .int .i64 am, .int .u64 ar.toNat, .slice aC anc acc, .slice aS n acs, .int .i64 0, .int .i64 0, .int .i64 asi, .slice aSA ana aca, .slice aSB anb acb] 38) := ⟨_, rfl⟩
          have hJ6 : BoxAt w #[.string person, .int .i64 month, .slice A n ca, .slice B m cb, .int .u64 root.toNat] w6 := by rw [hw6]; exact hJ5.go (bal (Below.refl _ _) _)
          have gD : w6.heap[w5.heap.size]? = some (.cells #[.string ap, .int .i64 am, .int .u64 ar.toNat, .slice aC anc acc, .slice aS n acs, .int .i64 0, .int .i64 0, .int .i64 asi, .slice aSA ana aca, .slice aSB anb acb] 38 (0, 0)) := by rw [hw6]; exact World.alloc_heap_new _ _
          rw [← hw6]
          obtain ⟨T, hT'⟩ : ∃ T, T = w5.heap.size := ⟨_, rfl⟩
          rw [← hT'] at gD ⊢
          have HJ6 := Lib.hid hJ6
          have GD := Lib.hid gD
          have k0 : w6.cell? ⟨w.heap.size, 0, none⟩ = some (.string person) := by rw [Lib.cell_of_heap HJ6.out.b]; rfl
          have k1 : w6.cell? ⟨w.heap.size, 1, none⟩ = some (.int .i64 month) := by rw [Lib.cell_of_heap HJ6.out.b]; rfl
          have k2 : w6.cell? ⟨w.heap.size, 2, none⟩ = some (.slice A n ca) := by rw [Lib.cell_of_heap HJ6.out.b]; rfl
          have k3 : w6.cell? ⟨w.heap.size, 3, none⟩ = some (.slice B m cb) := by rw [Lib.cell_of_heap HJ6.out.b]; rfl
          have k4 : w6.cell? ⟨w.heap.size, 4, none⟩ = some (.int .u64 root.toNat) := by rw [Lib.cell_of_heap HJ6.out.b]; rfl
          clear hJ6 gD hw6 hT' hJ5
          clear w5
          go_wp2_with fail
          refine (show_any person month root A B none ca cb 0 n m 0 rows bl [] seed h i e2 He2 w6 (HT.out.go HJ6.out.be) (HA.out.go HJ6.out.be) (HB.out.go HJ6.out.be) (Sl.nil _ _) Hn.out.1 Hn.out.2 rfl Hml.out.1 Hml.out.2 (by omega) hp hRs.out Hbs.out hsd).mono ?_
          rintro e w7 ⟨⟨bp, bm, br, bC, bnc, bcc, bS, bns, bcs, bhid, bbld, bsi, bSA, bna, bca, bSB, bnb, bcb⟩, com2, ms2, ch2, p2, rfl, hf2, hok2, hC7⟩
          have hJ7 := HJ6.out.go hC7
          have hbe7 := hJ7.be
          have gD7 := (hC7.block T (Array.getElem?_eq_some_iff.1 GD.out).1).trans GD.out
          have c4 : w7.cell? ⟨T, 4, none⟩ = some (.slice aS n acs) := by rw [Lib.cell_of_heap gD7]; rfl
          have c5 : w7.cell? ⟨T, 5, none⟩ = some (.int .i64 0) := by rw [Lib.cell_of_heap gD7]; rfl
          have c6 : w7.cell? ⟨T, 6, none⟩ = some (.int .i64 0) := by rw [Lib.cell_of_heap gD7]; rfl
          have hTl : T < w7.heap.size := (Array.getElem?_eq_some_iff.1 gD7).1
          clear k0 k1 k2 k3 k4 HJ6 GD hJ7 gD7
          obtain ⟨s, hs⟩ : ∃ s, totK (rows.map (·.c)) n = s := ⟨_, rfl⟩
          have hl3 := HL2.out
          rw [hs] at hl3 ⊢
          rcases hl3 with ⟨h2, h3⟩ | ⟨h2, h3⟩
          · subst h2
            have his := (hok2 rfl).1
            obtain rfl : bns = 0 := his.ns_
            obtain rfl : n = bnc := (his.nc_.trans Hn.out.1).symm
            obtain rfl : s = bhid := by have := his.hid_; rw [Hn.out.1, h3] at this; exact this.symm
            clear his hok2 hf2 h3 hC7 hs HL2 HL
            dsimp only [DF.cells]
            go_wp2_with fail
            go_ret
            exact ⟨rfl, bal hbe7 _⟩
          · subst h2
            clear hok2 hf2 hC7 HL2 HL
            dsimp only [DF.cells]
            rcases h3 with h3 | h3
            · go_wp2_with fail
              go_ret
              exact ⟨rfl, bal hbe7 _⟩
            · have h4 : ¬ s < -500000000 := by omega
              go_wp2_with fail
              go_ret
              exact ⟨rfl, bal hbe7 _⟩
        · obtain ⟨h1, h2⟩ := hl1 he
          subst h1 h2
          clear hl1 hl2 he HL
          refine (show_any person month root A B E ca cb ce n m n rows bl (allL n) seed h i 1 He1 wr (HT.out.go HJ.out.be) (HA.out.go HJ.out.be) (HB.out.go HJ.out.be) HSl.out Hn.out.1 Hn.out.2 (allL_len n) Hml.out.1 Hml.out.2 (by omega) hp hRs.out Hbs.out hsd).mono ?_
          rintro e w5 ⟨⟨ap, am, ar, aC, anc, acc, aS, ans, acs, ahid, abld, asi, aSA, ana, aca, aSB, anb, acb⟩, com, ms, ch, p, rfl, _, _, hC5⟩
          have hJ5 := HJ.out.go hC5
          clear k0 k1 k3 k4 hC5 c2 hBw
          dsimp only [DF.cells]
          go_upto_region 12 with fail
          obtain ⟨w6, hw6⟩ : ∃ Q : World, Q = w5.alloc (.cells #[.string ap, .int .i64 am, .int .u64 ar.toNat, .slice aC anc acc, .slice aS ans acs, .int .i64 ahid, .int .i64 abld, .int .i64 asi, .slice aSA ana aca, .slice aSB anb acb] 38) := ⟨_, rfl⟩
          have hJ6 : BoxAt w #[.string person, .int .i64 month, .slice A n ca, .slice B m cb, .int .u64 root.toNat] w6 := by rw [hw6]; exact hJ5.go (bal (Below.refl _ _) _)
          rw [← hw6]
          have HJ6 := Lib.hid hJ6
          have k0 : w6.cell? ⟨w.heap.size, 0, none⟩ = some (.string person) := by rw [Lib.cell_of_heap HJ6.out.b]; rfl
          have k1 : w6.cell? ⟨w.heap.size, 1, none⟩ = some (.int .i64 month) := by rw [Lib.cell_of_heap HJ6.out.b]; rfl
          have k2 : w6.cell? ⟨w.heap.size, 2, none⟩ = some (.slice A n ca) := by rw [Lib.cell_of_heap HJ6.out.b]; rfl
          have k3 : w6.cell? ⟨w.heap.size, 3, none⟩ = some (.slice B m cb) := by rw [Lib.cell_of_heap HJ6.out.b]; rfl
          have k4 : w6.cell? ⟨w.heap.size, 4, none⟩ = some (.int .u64 root.toNat) := by rw [Lib.cell_of_heap HJ6.out.b]; rfl
          clear hJ6 hw6 hJ5
          go_wp2_with fail
          refine (show_any person month root A B none ca cb 0 n m 0 rows bl [] seed h i 1 He2 w6 (HT.out.go HJ6.out.be) (HA.out.go HJ6.out.be) (HB.out.go HJ6.out.be) (Sl.nil _ _) Hn.out.1 Hn.out.2 rfl Hml.out.1 Hml.out.2 (by omega) hp hRs.out Hbs.out hsd).mono ?_
          rintro e w7 ⟨⟨bp, bm, br, bC, bnc, bcc, bS, bns, bcs, bhid, bbld, bsi, bSA, bna, bca, bSB, bnb, bcb⟩, com2, ms2, ch2, p2, rfl, _, _, hC7⟩
          have hbe7 := (HJ6.out.go hC7).be
          clear k0 k1 k2 k3 k4 HJ6 hC7
          dsimp only [DF.cells]
          go_wp2_with fail
          go_ret
          exact ⟨rfl, bal hbe7 _⟩
end Go.Proofs.YtipnbcggimpdeaaDoor
