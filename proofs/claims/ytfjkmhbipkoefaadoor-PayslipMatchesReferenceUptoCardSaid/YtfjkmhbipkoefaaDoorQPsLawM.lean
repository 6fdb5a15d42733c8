/- The walk of PayslipMatchesReference. -/
import Derived.Test.YtfjkmhbipkoefaaDoorQ26
namespace Go.Proofs.YtfjkmhbipkoefaaDoor
open Go.RowKit Go.Shelf
set_option linter.unusedVariables false
set_option linter.unusedSimpArgs false
set_option maxRecDepth 100000
def caseL (c : CaseM) : List Value := [c.f0, .slice c.LA c.ds.length c.lc, .slice c.AA c.nums.length c.ac, c.v3, c.v4, c.v5, c.v6, .string c.cur, .int .i64 c.fst]
def slipL (s : SlipM) : List Value := [.string s.person, .int .i64 s.month, .slice s.LA s.lines.length s.lc, .int .i64 s.gross, .int .i64 s.tax, .int .i64 s.deduct, .int .i64 s.floor, .slice s.TA s.taken.length s.tc, .int .i64 s.net]
/-- The lists of a case that the payslip does not read are slices. -/
def CaseSl (c : CaseM) : Prop := (∃ a n m, c.f0 = .slice a n m) ∧ (∃ a n m, c.v3 = .slice a n m) ∧ (∃ a n m, c.v4 = .slice a n m) ∧ (∃ a n m, c.v5 = .slice a n m) ∧ (∃ a n m, c.v6 = .slice a n m)
theorem caseSl0 (LA AA : Option Addr) : CaseSl (case0 LA AA) := ⟨⟨_, _, _, rfl⟩, ⟨_, _, _, rfl⟩, ⟨_, _, _, rfl⟩, ⟨_, _, _, rfl⟩, ⟨_, _, _, rfl⟩⟩
theorem cell_two {W : World} {Q : Nat} {T : TypeId} {l1 l2 : List Value} (g : W.heap[Q]? = some (.cells (l1 ++ l2).toArray T (0, 0))) (h1 : l1.length = 9) (k : Nat) (hk : k < 2) : ∀ j v, (if k = 0 then l1 else l2)[j]? = some v → j < 9 → W.cell? ⟨Q, k * 9 + j, none⟩ = some v := by
  intro j v hv hj
  rw [Lib.cell_of_heap g]
  have hk2 : k = 0 ∨ k = 1 := by omega
  rcases hk2 with rfl | rfl
  · rw [if_pos rfl] at hv
    simp only [Nat.zero_mul, Nat.zero_add, List.getElem?_toArray]
    rw [List.getElem?_append_left (by omega)]
    exact hv
  · rw [if_neg (by decide)] at hv
    simp only [List.getElem?_toArray]
    rw [List.getElem?_append_right (by omega), h1, show 1 * 9 + j - 9 = j by omega]
    exact hv
/-- Rows of the program and of the reference, Seal of both, at one case and one result. -/
theorem pmr_ready (c : CaseM) (s : SlipM) (seed : ByteArray) (W0 : World) (hc : CaseOk W0 c) (hs : SlipOk W0 s) (hT : PTabs W0) (hz : seed.size ≤ maxLen) :
    ∃ (E : Int) (n : Nat) (RR : List RowD) (SS : SheetD) (SE : Int) (rn bn : Nat), RR.length = n ∧ n ≤ 1024 ∧ SS.rows.length = rn ∧ SS.bl.length = bn ∧ rn ≤ 1024 ∧ bn ≤ 1024 ∧ ∀ W, Below W0.heap.size W0 W →
      Calls Tryd.prog 8 #[caseV c, slipV s] W (fun e w' => ∃ A ca, e = .returned (.tuple #[.slice A n ca, .int .i64 E]) ∧ Sl w' w'.heap.size 3 A n (rowsV RR) ∧ Below W.heap.size W w') ∧
      Calls Tryd.prog 9 #[caseV c, slipV s] W (fun e w' => ∃ A ca, e = .returned (.tuple #[.slice A n ca, .int .i64 E]) ∧ Sl w' w'.heap.size 3 A n (rowsV RR) ∧ Below W.heap.size W w') ∧
      Calls Tryd.prog 10 #[caseV c, slipV s, .string seed] W (fun e w' => ∃ A ca B cb, e = .returned (.tuple #[.agg #[.string SS.person, .int .i64 SS.month, .slice A rn ca, .slice B bn cb, .int .u64 SS.root.toNat], .int .i64 SE]) ∧ Sl w' w'.heap.size 3 A rn (rowsV SS.rows) ∧ Sl w' w'.heap.size 1 B bn (intV SS.bl) ∧ Below W.heap.size W w') ∧
      Calls Tryd.prog 11 #[caseV c, slipV s, .string seed] W (fun e w' => ∃ A ca B cb, e = .returned (.tuple #[.agg #[.string SS.person, .int .i64 SS.month, .slice A rn ca, .slice B bn cb, .int .u64 SS.root.toNat], .int .i64 SE]) ∧ Sl w' w'.heap.size 3 A rn (rowsV SS.rows) ∧ Sl w' w'.heap.size 1 B bn (intV SS.bl) ∧ Below W.heap.size W w') := by
  have hok := seal_ok (seed := seed) hc hs
  refine ⟨rowsE (fitsB c s) (rowsL c s).length, (rowsR c s).length, rowsR c s, sealS c s seed, sealE c s seed, (sealS c s seed).rows.length, (sealS c s seed).bl.length, rfl, rowsR_len c s, rfl, rfl, hok.2.1, hok.2.2.1, fun W hW => ⟨?_, ?_, ?_, ?_⟩⟩
  · refine (Rows_at c s _ _ (Lib.hid rfl) (Lib.hid rfl) (rowsR c s) _ _ (Lib.hid rfl) (Lib.hid rfl) (Lib.hid rfl) W (hc.go hW) (hs.go hW) (hT.go hW).1).mono ?_
    rintro e w' ⟨A, ca, rfl, _, hA, hB⟩
    exact ⟨A, ca, rfl, own_sl hA, hB⟩
  · refine (rRows_at c s _ _ (Lib.hid rfl) (Lib.hid rfl) (rowsR c s) _ _ (Lib.hid rfl) (Lib.hid rfl) (Lib.hid rfl) W (hc.go hW) (hs.go hW)).mono ?_
    rintro e w' ⟨A, ca, rfl, _, hA, hB⟩
    exact ⟨A, ca, rfl, own_sl hA, hB⟩
  · refine (Seal_any c s seed W (hc.go hW) (hs.go hW) (hT.go hW) hz).mono ?_
    rintro e w' ⟨A, ca, B, cb, rfl, _, _, hA, hB', hB⟩
    exact ⟨A, ca, B, cb, rfl, hA, hB', hB⟩
  · refine (rSeal_any c s seed W (hc.go hW) (hs.go hW) hz).mono ?_
    rintro e w' ⟨A, ca, B, cb, rfl, _, _, hA, hB', hB⟩
    exact ⟨A, ca, B, cb, rfl, hA, hB', hB⟩
set_option maxHeartbeats 16000000 in
theorem payslipMatchesReference_walk (c : CaseM) (s : SlipM) (seed : ByteArray) (pp : ByteArray) (pm : Int) (PA : Option Addr) (pca : Nat) (prows : List RowD) (PB : Option Addr) (pcb : Nat) (pbl : List Int) (pr : UInt64) (month : Int) (LA : Option Addr) (lc : Nat) (ls : List Quad) (OA : Option Addr) (oc : Nat) (os : List Int) (w : World)
    (hc : CaseOk w c) (hcs : CaseSl c) (hs : SlipRaw w s) (hz : seed.size ≤ maxLen) (hpA : Sl w w.heap.size 3 PA prows.length (rowsV prows)) (hpB : Sl w w.heap.size 1 PB pbl.length (intV pbl)) (hpn : prows.length ≤ maxLen) (hpk : pbl.length ≤ maxLen) (hpp : pp.size ≤ maxLen) (hps : ∀ x ∈ prows, x.l.size ≤ 70368744177000 ∧ x.r.size ≤ 70368744177000 ∧ I64 x.c) (hpb : ∀ b ∈ pbl, I64 b)
    (hm : I64 month) (hL : Sl w w.heap.size 4 LA ls.length (ls.flatMap quadV)) (hls : ls.length ≤ maxLen ∧ ∀ q ∈ ls, QuadOk q) (hO : Sl w w.heap.size 1 OA os.length (intV os)) (hos : os.length ≤ maxLen ∧ ∀ x ∈ os, I64 x) (hT : PTabs w) :
    Calls Tryd.prog 3 #[caseV c, slipV s, .string seed, .agg #[.string pp, .int .i64 pm, .slice PA prows.length pca, .slice PB pbl.length pcb, .int .u64 pr.toNat], .int .i64 month, .slice LA ls.length lc, .slice OA os.length oc] w fun e w' => e = .returned (.bool true) ∧ Below w.heap.size w w' := by
  obtain ⟨fb, hfb⟩ : ∃ b, fewB s = b := ⟨_, rfl⟩
  have hfew := fun (W : World) (hW : Below w.heap.size w W) => few_any s fb (Lib.hid hfb) W (hs.go hW)
  have Hsok : Hid (fb = true → ∀ W, Below w.heap.size w W → SlipOk W s) := Lib.hid (fun h W hW => (hs.go hW).ok (hfb.trans h))
  obtain ⟨pn, hpn'⟩ : ∃ n, prows.length = n := ⟨_, rfl⟩
  obtain ⟨pk, hpk'⟩ : ∃ n, pbl.length = n := ⟨_, rfl⟩
  obtain ⟨N, hN⟩ : ∃ N, ls.length = N := ⟨_, rfl⟩
  obtain ⟨M, hM⟩ : ∃ M, os.length = M := ⟨_, rfl⟩
  rw [hpn', hpk', hN, hM]
  rw [hpn'] at hpA hpn
  rw [hpk'] at hpB hpk
  rw [hN] at hL hls
  rw [hM] at hO hos
  obtain ⟨v, hv⟩ : ∃ v, validB pp pm prows pbl pr = v := ⟨_, rfl⟩
  have hvalid := fun (W : World) (hW : Below w.heap.size w W) => And.intro (valid35_any pp pm PA PB pca pcb pn pk prows pbl pr v (Lib.hid hv) W (hT.go hW) (hpA.go hW) (hpB.go hW) hpn' hpk' hpn hpk hpp hps hpb) (rvalid35_any pp pm PA PB pca pcb pn pk prows pbl pr v (Lib.hid hv) W (hpA.go hW) (hpB.go hW) hpn' hpk' hpn hpk hpp hps hpb)
  have Hvalid := Lib.hid hvalid
  have HTb := Lib.hid hT
  have Hmo : Hid (I64 month) := Lib.hid hm
  have HL := Lib.hid hL
  have HO := Lib.hid hO
  have HN := Lib.hid hN
  have HM := Lib.hid hM
  have Hls := Lib.hid hls
  have Hos := Lib.hid hos
  have HC := Lib.hid (And.intro hc hcs)
  have Hs := Lib.hid hs
  unfold maxLen at hz hpn hpk hpp
  obtain ⟨sa, hsa1⟩ : ∃ t, seed.extract 0 (min (seed.size : Int) 70).toNat = t := ⟨_, rfl⟩
  have hsa2 : sa.size ≤ 70 := by rw [← hsa1, ext_size]; omega
  have hsam : sa.size ≤ maxLen := by unfold maxLen; omega
  have hmn : 0 ≤ min (seed.size : Int) 70 ∧ min (seed.size : Int) 70 ≤ (seed.size : Int) := by omega
  clear hvalid hT hL hO hN hM hls hos hc hcs hs hfb hv hpA hpB hpn' hpk' hps hpb hm
  obtain ⟨bperson, bmonth, bLA, blc, blines, bgross, btax, bdeduct, bfloor, bTA, btc, btaken, bnet⟩ := s
  obtain ⟨af0, aDA, adc, ads, aAA, aac, anums, av3, av4, av5, av6, acur, afst⟩ := c
  dsimp only [slipV, caseV] at hfew ⊢
  obtain ⟨adn, hadn⟩ : ∃ n, ads.length = n := ⟨_, rfl⟩
  obtain ⟨aan, haan⟩ : ∃ n, anums.length = n := ⟨_, rfl⟩
  obtain ⟨bln, hbln⟩ : ∃ n, blines.length = n := ⟨_, rfl⟩
  obtain ⟨btn, hbtn⟩ : ∃ n, btaken.length = n := ⟨_, rfl⟩
  rw [hbln, hbtn] at hfew
  rw [hadn, haan, hbln, hbtn]
  have Hfew := Lib.hid hfew
  have Hca : Hid (caseL ⟨af0, aDA, adc, ads, aAA, aac, anums, av3, av4, av5, av6, acur, afst⟩ = [af0, .slice aDA adn adc, .slice aAA aan aac, av3, av4, av5, av6, .string acur, .int .i64 afst]) := Lib.hid (by unfold caseL; dsimp only; rw [hadn, haan])
  have Hsb : Hid (slipL ⟨bperson, bmonth, bLA, blc, blines, bgross, btax, bdeduct, bfloor, bTA, btc, btaken, bnet⟩ = [.string bperson, .int .i64 bmonth, .slice bLA bln blc, .int .i64 bgross, .int .i64 btax, .int .i64 bdeduct, .int .i64 bfloor, .slice bTA btn btc, .int .i64 bnet]) := Lib.hid (by unfold slipL; dsimp only; rw [hbln, hbtn])
  clear hfew hadn haan hbln hbtn
  go_enter Tryd.func3, Tryd.ntmps3
  go_upto_region 1 with fail
  obtain ⟨W, hW⟩ : ∃ W, W = ((w.alloc (.cells #[af0, .slice aDA adn adc, .slice aAA aan aac, av3, av4, av5, av6, .string acur, .int .i64 afst] 33)).alloc (.cells #[.string bperson, .int .i64 bmonth, .slice bLA bln blc, .int .i64 bgross, .int .i64 btax, .int .i64 bdeduct, .int .i64 bfloor, .slice bTA btn btc, .int .i64 bnet] 37)).alloc (.cells #[.string pp, .int .i64 pm, .slice PA pn pca, .slice PB pk pcb, .int .u64 pr.toNat] 43) := ⟨_, rfl⟩
  rw [← hW]
  have g0 : W.heap[w.heap.size]? = some (.cells #[af0, .slice aDA adn adc, .slice aAA aan aac, av3, av4, av5, av6, .string acur, .int .i64 afst] 33 (0, 0)) := by rw [hW]; exact (Below.heap_alloc _ _ _ (by simp; omega)).trans (heap_alloc2_old w _ _)
  have g1 : W.heap[w.heap.size + 1]? = some (.cells #[.string bperson, .int .i64 bmonth, .slice bLA bln blc, .int .i64 bgross, .int .i64 btax, .int .i64 bdeduct, .int .i64 bfloor, .slice bTA btn btc, .int .i64 bnet] 37 (0, 0)) := by rw [hW]; exact (Below.heap_alloc _ _ _ (by simp)).trans (heap_alloc2_new w _ _)
  have g2 : W.heap[w.heap.size + 2]? = some (.cells #[.string pp, .int .i64 pm, .slice PA pn pca, .slice PB pk pcb, .int .u64 pr.toNat] 43 (0, 0)) := by
    rw [hW]
    have := World.alloc_heap_new ((w.alloc (.cells #[af0, .slice aDA adn adc, .slice aAA aan aac, av3, av4, av5, av6, .string acur, .int .i64 afst] 33)).alloc (.cells #[.string bperson, .int .i64 bmonth, .slice bLA bln blc, .int .i64 bgross, .int .i64 btax, .int .i64 bdeduct, .int .i64 bfloor, .slice bTA btn btc, .int .i64 bnet] 37)) (.cells #[.string pp, .int .i64 pm, .slice PA pn pca, .slice PB pk pcb, .int .u64 pr.toNat] 43)
    rw [World.size_alloc, World.size_alloc] at this
    exact this
  have hBW : Below w.heap.size w W := by rw [hW]; exact bal (bal (bal (Below.refl _ _) _) _) _
  have G := Lib.hid (And.intro g0 (And.intro g1 (And.intro g2 hBW)))
  clear hW g0 g1 g2
  go_wp2_with fail
  refine (head_any W (HTb.out.go hBW)).mono ?_
  rintro e w1 ⟨rfl, hB1⟩
  have hG1 := And.intro ((hB1.block _ (Array.getElem?_eq_some_iff.1 G.out.1).1).trans G.out.1) (And.intro ((hB1.block _ (Array.getElem?_eq_some_iff.1 G.out.2.1).1).trans G.out.2.1) (And.intro ((hB1.block _ (Array.getElem?_eq_some_iff.1 G.out.2.2.1).1).trans G.out.2.2.1) (bgo G.out.2.2.2 hB1)))
  have G1 := Lib.hid hG1
  clear hB1 G hG1 hBW
  clear W
  have e0 : w1.cell? ⟨w.heap.size + 1, 0, none⟩ = some (.string bperson) := by rw [Lib.cell_of_heap G1.out.2.1]; rfl
  have e1 : w1.cell? ⟨w.heap.size + 1, 1, none⟩ = some (.int .i64 bmonth) := by rw [Lib.cell_of_heap G1.out.2.1]; rfl
  have e2 : w1.cell? ⟨w.heap.size + 1, 2, none⟩ = some (.slice bLA bln blc) := by rw [Lib.cell_of_heap G1.out.2.1]; rfl
  have e3 : w1.cell? ⟨w.heap.size + 1, 3, none⟩ = some (.int .i64 bgross) := by rw [Lib.cell_of_heap G1.out.2.1]; rfl
  have e4 : w1.cell? ⟨w.heap.size + 1, 4, none⟩ = some (.int .i64 btax) := by rw [Lib.cell_of_heap G1.out.2.1]; rfl
  have e5 : w1.cell? ⟨w.heap.size + 1, 5, none⟩ = some (.int .i64 bdeduct) := by rw [Lib.cell_of_heap G1.out.2.1]; rfl
  have e6 : w1.cell? ⟨w.heap.size + 1, 6, none⟩ = some (.int .i64 bfloor) := by rw [Lib.cell_of_heap G1.out.2.1]; rfl
  have e7 : w1.cell? ⟨w.heap.size + 1, 7, none⟩ = some (.slice bTA btn btc) := by rw [Lib.cell_of_heap G1.out.2.1]; rfl
  have e8 : w1.cell? ⟨w.heap.size + 1, 8, none⟩ = some (.int .i64 bnet) := by rw [Lib.cell_of_heap G1.out.2.1]; rfl
  go_wp2_with fail
  refine (Hfew.out w1 G1.out.2.2.2).mono ?_
  rintro e w2 ⟨rfl, hB2⟩
  clear hsa1 hmn
  have hG2 := And.intro ((hB2.block _ (Array.getElem?_eq_some_iff.1 G1.out.1).1).trans G1.out.1) (And.intro ((hB2.block _ (Array.getElem?_eq_some_iff.1 G1.out.2.1).1).trans G1.out.2.1) (And.intro ((hB2.block _ (Array.getElem?_eq_some_iff.1 G1.out.2.2.1).1).trans G1.out.2.2.1) (bgo G1.out.2.2.2 hB2)))
  have G2 := Lib.hid hG2
  clear hB2 hG2 G1 e0 e1 e2 e3 e4 e5 e6 e7 e8 Hfew
  clear w1
  have p0 : w2.cell? ⟨w.heap.size + 2, 0, none⟩ = some (.string pp) := by rw [Lib.cell_of_heap G2.out.2.2.1]; rfl
  have p2 : w2.cell? ⟨w.heap.size + 2, 2, none⟩ = some (.slice PA pn pca) := by rw [Lib.cell_of_heap G2.out.2.2.1]; rfl
  have p3 : w2.cell? ⟨w.heap.size + 2, 3, none⟩ = some (.slice PB pk pcb) := by rw [Lib.cell_of_heap G2.out.2.2.1]; rfl
  cases fb with
  | false =>
    have hbe := G2.out.2.2.2
    go_wp2_with fail
    go_ret
    exact ⟨rfl, hbe⟩
  | true =>
    by_cases q1 : (40 : Int) < (pn : Int)
    · have hbe := G2.out.2.2.2
      go_wp2_with fail
      go_ret
      exact ⟨rfl, hbe⟩
    · by_cases q2 : (40 : Int) < (pk : Int)
      · have hbe := G2.out.2.2.2
        go_wp2_with fail
        go_ret
        exact ⟨rfl, hbe⟩
      · by_cases q3 : (100 : Int) < (pp.size : Int)
        · have hbe := G2.out.2.2.2
          go_wp2_with fail
          go_ret
          exact ⟨rfl, hbe⟩
        · have hSok := Hsok.out rfl
          have HSok := Lib.hid hSok
          clear hSok Hsok
          go_upto_region 5 with fail
          clear p0 p2 p3
          have HG2 := Lib.hid (show w2.drew.heap[w.heap.size]? = some (.cells #[af0, .slice aDA adn adc, .slice aAA aan aac, av3, av4, av5, av6, .string acur, .int .i64 afst] 33 (0, 0)) ∧ Below w.heap.size w w2.drew from ⟨G2.out.1, G2.out.2.2.2.drew⟩)
          go_cut [60, 61, 62] (fun s1_ s2_ s3_ wx => ∃ Q cLA cAA, s1_ = .slice (some ⟨Q, 0, none⟩) 2 2 ∧ s2_ = .int .i64 2 ∧ s3_ = .int .i64 0 ∧ Q < wx.heap.size ∧ wx.heap[Q]? = some (.cells #[af0, .slice aDA adn adc, .slice aAA aan aac, av3, av4, av5, av6, .string acur, .int .i64 afst, .slice none 0 0, .slice cLA 4 4, .slice cAA 2 2, .slice none 0 0, .slice none 0 0, .slice none 0 0, .slice none 0 0, .string ⟨#[69, 85, 82]⟩, .int .i64 0] 33 (0, 0)) ∧ CaseOk wx (case0 cLA cAA) ∧ Below w2.heap.size w2 wx)
          case first =>
            refine wp_region_noPanic ?_
            refine wp_region_held_drew (S := fun W => W.heap[w.heap.size]? = some (.cells #[af0, .slice aDA adn adc, .slice aAA aan aac, av3, av4, av5, av6, .string acur, .int .i64 afst] 33 (0, 0))) (by kernel_rfl) HG2.out.1 (fun hHeld => ?_)
            have hq0 : ∀ W : World, W.heap[w.heap.size]? = some (.cells #[af0, .slice aDA adn adc, .slice aAA aan aac, av3, av4, av5, av6, .string acur, .int .i64 afst] 33 (0, 0)) → W.cell? ⟨w.heap.size, 0, none⟩ = some (af0) ∧ W.cell? ⟨w.heap.size, 1, none⟩ = some (.slice aDA adn adc) ∧ W.cell? ⟨w.heap.size, 2, none⟩ = some (.slice aAA aan aac) ∧ W.cell? ⟨w.heap.size, 3, none⟩ = some (av3) ∧ W.cell? ⟨w.heap.size, 4, none⟩ = some (av4) ∧ W.cell? ⟨w.heap.size, 5, none⟩ = some (av5) ∧ W.cell? ⟨w.heap.size, 6, none⟩ = some (av6) ∧ W.cell? ⟨w.heap.size, 7, none⟩ = some (.string acur) ∧ W.cell? ⟨w.heap.size, 8, none⟩ = some (.int .i64 afst) := fun W hW => ⟨by rw [Lib.cell_of_heap hW]; rfl, by rw [Lib.cell_of_heap hW]; rfl, by rw [Lib.cell_of_heap hW]; rfl, by rw [Lib.cell_of_heap hW]; rfl, by rw [Lib.cell_of_heap hW]; rfl, by rw [Lib.cell_of_heap hW]; rfl, by rw [Lib.cell_of_heap hW]; rfl, by rw [Lib.cell_of_heap hW]; rfl, by rw [Lib.cell_of_heap hW]; rfl⟩
            have HQ0 := Lib.hid hq0
            clear hq0
            refine wpAnyH_take (i := 0) (v := ?_) rfl (by kernel_rfl) (by kernel_rfl) (by kernel_rfl) (fun _ _ _ h => h) (Or.inl ⟨by kernel_rfl, ?_⟩) (by assumption) ?_
            rotate_left
            · intro w hSw
              (try dsimp only at hSw)
              obtain ⟨z0, z1, z2, z3, z4, z5, z6, z7, z8⟩ := HQ0.out w hSw
              go_simp
              first | done | with_reducible rfl
            simp only [List.getElem_toArray, List.getElem_cons_zero, List.getElem_cons_succ, Act.put, List.setIfInBounds_toArray, List.set_cons_zero, List.set_cons_succ]
            refine wpAnyH_take (i := 4) (v := ?_) rfl (by kernel_rfl) (by kernel_rfl) (by kernel_rfl) (fun _ _ _ h => h) (Or.inl ⟨by kernel_rfl, ?_⟩) (by assumption) ?_
            rotate_left
            · intro w hSw
              (try dsimp only at hSw)
              go_simp
              first | done | with_reducible rfl
            simp only [List.getElem_toArray, List.getElem_cons_zero, List.getElem_cons_succ, Act.put, List.setIfInBounds_toArray, List.set_cons_zero, List.set_cons_succ]
            refine wpAnyH_ready (rs := [1]) (by kernel_rfl) (by simp) ?_
            refine AllReadyH.cons rfl (fun K hK => ?_) ?_
            · simp only [List.getElem_toArray, List.getElem_cons_zero, List.getElem_cons_succ]
              go_simp
              (with_reducible refine (case_any w2.drew).mono ?_)
              rintro e U ⟨cLA, cAA, rfl, hCo, hBn⟩
              dsimp only [caseV, case0]
              dsimp only [ds0, List.length_cons, List.length_nil]
              have hBu : Below w2.heap.size w2 U := below_undrew hBn
              refine hK.out _ _ ((hBn.block _ (Array.getElem?_eq_some_iff.1 HG2.out.1).1).trans HG2.out.1) (fun hHeld => ?_)
              clear hK K
              try simp only [List.getElem_toArray, List.getElem_cons_zero, List.getElem_cons_succ, Act.put, List.setIfInBounds_toArray, List.set_cons_zero, List.set_cons_succ]
              refine wpAnyH_ready (rs := [2]) (by kernel_rfl) (by simp) ?_
              refine AllReadyH.cons rfl (fun K hK => ?_) ?_
              · simp only [List.getElem_toArray, List.getElem_cons_zero, List.getElem_cons_succ]
                go_simp
                obtain ⟨Un, hUn⟩ : ∃ x, x = U.alloc (.cells #[af0, .slice aDA adn adc, .slice aAA aan aac, av3, av4, av5, av6, .string acur, .int .i64 afst, .slice none 0 0, .slice cLA 4 4, .slice cAA 2 2, .slice none 0 0, .slice none 0 0, .slice none 0 0, .slice none 0 0, .string ⟨#[69, 85, 82]⟩, .int .i64 0] 33) := ⟨_, rfl⟩
                obtain ⟨Q, hQ⟩ : ∃ x, x = U.heap.size := ⟨_, rfl⟩
                have hBn2 : Below U.heap.size U Un := by rw [hUn]; exact bal (Below.refl _ _) _
                have gQ : Un.heap[Q]? = some (.cells #[af0, .slice aDA adn adc, .slice aAA aan aac, av3, av4, av5, av6, .string acur, .int .i64 afst, .slice none 0 0, .slice cLA 4 4, .slice cAA 2 2, .slice none 0 0, .slice none 0 0, .slice none 0 0, .slice none 0 0, .string ⟨#[69, 85, 82]⟩, .int .i64 0] 33 (0, 0)) := by rw [hUn, hQ]; exact World.alloc_heap_new _ _
                have hCo2 := hCo.go hBn2
                rw [← hUn]
                try rw [← hQ]
                clear hUn hQ
                refine hK.out _ _ ((hBn2.block _ (Array.getElem?_eq_some_iff.1 hHeld).1).trans hHeld) (fun hHeld => ?_)
                clear hK K
                try simp only [List.getElem_toArray, List.getElem_cons_zero, List.getElem_cons_succ, Act.put, List.setIfInBounds_toArray, List.set_cons_zero, List.set_cons_succ]
                refine wpAnyH_take (i := 3) (v := ?_) rfl (by kernel_rfl) (by kernel_rfl) (by kernel_rfl) (fun _ _ _ h => h) (Or.inl ⟨by kernel_rfl, ?_⟩) (by assumption) ?_
                rotate_left
                · intro w hSw
                  (try dsimp only at hSw)
                  go_simp
                  first | done | with_reducible rfl
                simp only [List.getElem_toArray, List.getElem_cons_zero, List.getElem_cons_succ, Act.put, List.setIfInBounds_toArray, List.set_cons_zero, List.set_cons_succ]
                refine wpAnyH_done (by kernel_rfl) ?_ _
                dsimp only [NoPanic]
                clear hHeld
                go_wp2_with fail
                go_meet
                exact ⟨Q, cLA, cAA, rfl, rfl, rfl, (Array.getElem?_eq_some_iff.1 gQ).1, gQ, hCo2, bgo hBu hBn2⟩
              exact AllReadyH.nil
            exact AllReadyH.nil
          case rest =>
            obtain ⟨Q, cLA, cAA, rfl, rfl, rfl, hQl, gQ, hCo, hB3⟩ := hcut
            have hG3 := And.intro ((hB3.block _ (Array.getElem?_eq_some_iff.1 G2.out.1).1).trans G2.out.1) (And.intro ((hB3.block _ (Array.getElem?_eq_some_iff.1 G2.out.2.1).1).trans G2.out.2.1) (And.intro ((hB3.block _ (Array.getElem?_eq_some_iff.1 G2.out.2.2.1).1).trans G2.out.2.2.1) (bgo G2.out.2.2.2 hB3)))
            obtain ⟨w3, hw3⟩ : ∃ w3, w3 = wc := ⟨_, rfl⟩
            rw [← hw3] at gQ hCo hG3 hQl ⊢
            clear hw3 hB3 HG2
            have G3 := Lib.hid hG3
            have HX : Hid (∀ k, k < 2 → ∃ xs, CaseOk w3 xs ∧ CaseSl xs ∧ ∀ j v, (caseL xs)[j]? = some v → j < 9 → w3.cell? ⟨Q, k * 9 + j, none⟩ = some v) := Lib.hid (fun k hk => by
              have hct := cell_two (l1 := caseL ⟨af0, aDA, adc, ads, aAA, aac, anums, av3, av4, av5, av6, acur, afst⟩) (l2 := caseL (case0 cLA cAA)) (W := w3) (Q := Q) (T := 33) (by rw [Hca.out]; exact gQ) rfl k hk
              by_cases h0 : k = 0
              · rw [if_pos h0] at hct
                exact ⟨_, HC.out.1.go hG3.2.2.2, HC.out.2, hct⟩
              · rw [if_neg h0] at hct
                exact ⟨_, hCo, caseSl0 _ _, hct⟩)
            clear hG3 gQ hCo
            clear wc
            go_wp2_with fail
            go_loopw [15, 62] (fun u i wr => ∃ k : Nat, k ≤ 2 ∧ i = .int .i64 (k : Int) ∧ u = .bool true ∧ Below w3.heap.size w3 wr) (fun _ i _ => 2 - (intOf i).toNat)
            case atStart => exact ⟨0, Nat.zero_le _, rfl, rfl, Below.refl _ _⟩
            case round =>
              obtain ⟨k, hk, rfl, rfl, hB4⟩ := hrel
              by_cases hlt : k < 2
              · have hlt' : (k : Int) < 2 := by omega
                obtain ⟨xs, hxo, hxsl, hxc⟩ := HX.out k hlt
                have hxo4 := hxo.go hB4
                obtain ⟨xf0, xDA, xdc, xds, xAA, xac, xnums, xv3, xv4, xv5, xv6, xcur, xfst⟩ := xs
                obtain ⟨⟨x0a, x0n, x0c, h0⟩, ⟨x3a, x3n, x3c, h3⟩, ⟨x4a, x4n, x4c, h4⟩, ⟨x5a, x5n, x5c, h5⟩, ⟨x6a, x6n, x6c, h6⟩⟩ := hxsl
                dsimp only at h0 h3 h4 h5 h6
                subst h0 h3 h4 h5 h6
                obtain ⟨xdn, hxdn⟩ : ∃ n, xds.length = n := ⟨_, rfl⟩
                obtain ⟨xan, hxan⟩ : ∃ n, xnums.length = n := ⟨_, rfl⟩
                unfold caseL at hxc
                dsimp only at hxc
                rw [hxdn, hxan] at hxc
                have hcq : ∀ j v, ([.slice x0a x0n x0c, .slice xDA xdn xdc, .slice xAA xan xac, .slice x3a x3n x3c, .slice x4a x4n x4c, .slice x5a x5n x5c, .slice x6a x6n x6c, .string xcur, .int .i64 xfst] : List Value)[j]? = some v → j < 9 → wr.cell? ⟨Q, k * 9 + j, none⟩ = some v := fun j v hv hj => (hB4.cell (p := ⟨Q, k * 9 + j, none⟩) hQl).trans (hxc j v hv hj)
                have y0 : wr.cell? ⟨Q, k * 9, none⟩ = some (.slice x0a x0n x0c) := hcq 0 _ rfl (by decide)
                have y1 : wr.cell? ⟨Q, k * 9 + 1, none⟩ = some (.slice xDA xdn xdc) := hcq 1 _ rfl (by decide)
                have y2 : wr.cell? ⟨Q, k * 9 + 2, none⟩ = some (.slice xAA xan xac) := hcq 2 _ rfl (by decide)
                have y3 : wr.cell? ⟨Q, k * 9 + 3, none⟩ = some (.slice x3a x3n x3c) := hcq 3 _ rfl (by decide)
                have y4 : wr.cell? ⟨Q, k * 9 + 4, none⟩ = some (.slice x4a x4n x4c) := hcq 4 _ rfl (by decide)
                have y5 : wr.cell? ⟨Q, k * 9 + 5, none⟩ = some (.slice x5a x5n x5c) := hcq 5 _ rfl (by decide)
                have y6 : wr.cell? ⟨Q, k * 9 + 6, none⟩ = some (.slice x6a x6n x6c) := hcq 6 _ rfl (by decide)
                have y7 : wr.cell? ⟨Q, k * 9 + 7, none⟩ = some (.string xcur) := hcq 7 _ rfl (by decide)
                have y8 : wr.cell? ⟨Q, k * 9 + 8, none⟩ = some (.int .i64 xfst) := hcq 8 _ rfl (by decide)
                have Hxo := Lib.hid hxo4
                have Hxd := Lib.hid (And.intro hxdn hxan)
                have HB4 := Lib.hid hB4
                clear hxo hxo4 hxc hcq hxdn hxan hB4
                go_upto_region 8 with fail
                obtain ⟨w5, hw5⟩ : ∃ x, x = wr.alloc (.cells #[.slice x0a x0n x0c, .slice xDA xdn xdc, .slice xAA xan xac, .slice x3a x3n x3c, .slice x4a x4n x4c, .slice x5a x5n x5c, .slice x6a x6n x6c, .string xcur, .int .i64 xfst] 33) := ⟨_, rfl⟩
                obtain ⟨Bc, hBc⟩ : ∃ x, x = wr.heap.size := ⟨_, rfl⟩
                rw [← hw5]
                rw [← hBc]
                have hBn : Below wr.heap.size wr w5 := by rw [hw5]; exact bal (Below.refl _ _) _
                have gc : w5.heap[Bc]? = some (.cells #[.slice x0a x0n x0c, .slice xDA xdn xdc, .slice xAA xan xac, .slice x3a x3n x3c, .slice x4a x4n x4c, .slice x5a x5n x5c, .slice x6a x6n x6c, .string xcur, .int .i64 xfst] 33 (0, 0)) := by rw [hw5, hBc]; exact World.alloc_heap_new _ _
                have hB5 := bgo HB4.out hBn
                have hxo5 := Hxo.out.go hBn
                have Hxo5 := Lib.hid (And.intro hxo5 (And.intro gc hB5))
                clear hw5 hBc hxo5 gc hB5 HB4 hBn Hxo y0 y1 y2 y3 y4 y5 y6 y7 y8
                clear wr
                have hBw5 := bgo G3.out.2.2.2 Hxo5.out.2.2
                have gs5 : w5.heap[w.heap.size + 1]? = some (.cells #[.string bperson, .int .i64 bmonth, .slice bLA bln blc, .int .i64 bgross, .int .i64 btax, .int .i64 bdeduct, .int .i64 bfloor, .slice bTA btn btc, .int .i64 bnet] 37 (0, 0)) := (Hxo5.out.2.2.block _ (Array.getElem?_eq_some_iff.1 G3.out.2.1).1).trans G3.out.2.1
                have HG5 := Lib.hid (show w5.drew.heap[w.heap.size + 1]? = some (.cells #[.string bperson, .int .i64 bmonth, .slice bLA bln blc, .int .i64 bgross, .int .i64 btax, .int .i64 bdeduct, .int .i64 bfloor, .slice bTA btn btc, .int .i64 bnet] 37 (0, 0)) ∧ Below w.heap.size w w5.drew from ⟨gs5, hBw5.drew⟩)
                clear gs5 hBw5
                go_cut [71, 72, 73] (fun s1_ s2_ s3_ wx => ∃ Q2 ss, s1_ = .slice (some ⟨Q2, 0, none⟩) 2 2 ∧ s2_ = .int .i64 2 ∧ s3_ = .int .i64 0 ∧ Q2 < wx.heap.size ∧ wx.heap[Q2]? = some (.cells (([.string bperson, .int .i64 bmonth, .slice bLA bln blc, .int .i64 bgross, .int .i64 btax, .int .i64 bdeduct, .int .i64 bfloor, .slice bTA btn btc, .int .i64 bnet] : List Value) ++ slipL ss).toArray 37 (0, 0)) ∧ SlipOk wx ss ∧ Below w5.heap.size w5 wx)
                case first =>
                  refine wp_region_noPanic ?_
                  refine wp_region_held_drew (S := fun W => W.heap[w.heap.size + 1]? = some (.cells #[.string bperson, .int .i64 bmonth, .slice bLA bln blc, .int .i64 bgross, .int .i64 btax, .int .i64 bdeduct, .int .i64 bfloor, .slice bTA btn btc, .int .i64 bnet] 37 (0, 0))) (by kernel_rfl) HG5.out.1 (fun hHeld => ?_)
                  have hq0 : ∀ W : World, W.heap[w.heap.size + 1]? = some (.cells #[.string bperson, .int .i64 bmonth, .slice bLA bln blc, .int .i64 bgross, .int .i64 btax, .int .i64 bdeduct, .int .i64 bfloor, .slice bTA btn btc, .int .i64 bnet] 37 (0, 0)) → W.cell? ⟨w.heap.size + 1, 0, none⟩ = some (.string bperson) ∧ W.cell? ⟨w.heap.size + 1, 1, none⟩ = some (.int .i64 bmonth) ∧ W.cell? ⟨w.heap.size + 1, 2, none⟩ = some (.slice bLA bln blc) ∧ W.cell? ⟨w.heap.size + 1, 3, none⟩ = some (.int .i64 bgross) ∧ W.cell? ⟨w.heap.size + 1, 4, none⟩ = some (.int .i64 btax) ∧ W.cell? ⟨w.heap.size + 1, 5, none⟩ = some (.int .i64 bdeduct) ∧ W.cell? ⟨w.heap.size + 1, 6, none⟩ = some (.int .i64 bfloor) ∧ W.cell? ⟨w.heap.size + 1, 7, none⟩ = some (.slice bTA btn btc) ∧ W.cell? ⟨w.heap.size + 1, 8, none⟩ = some (.int .i64 bnet) := fun W hW => ⟨by rw [Lib.cell_of_heap hW]; rfl, by rw [Lib.cell_of_heap hW]; rfl, by rw [Lib.cell_of_heap hW]; rfl, by rw [Lib.cell_of_heap hW]; rfl, by rw [Lib.cell_of_heap hW]; rfl, by rw [Lib.cell_of_heap hW]; rfl, by rw [Lib.cell_of_heap hW]; rfl, by rw [Lib.cell_of_heap hW]; rfl, by rw [Lib.cell_of_heap hW]; rfl⟩
                  have HQ0 := Lib.hid hq0
                  clear hq0
                  refine wpAnyH_take (i := 0) (v := ?_) rfl (by kernel_rfl) (by kernel_rfl) (by kernel_rfl) (fun _ _ _ h => h) (Or.inl ⟨by kernel_rfl, ?_⟩) (by assumption) ?_
                  rotate_left
                  · intro w hSw
                    (try dsimp only at hSw)
                    obtain ⟨z0, z1, z2, z3, z4, z5, z6, z7, z8⟩ := HQ0.out w hSw
                    go_simp
                    first | done | with_reducible rfl
                  simp only [List.getElem_toArray, List.getElem_cons_zero, List.getElem_cons_succ, Act.put, List.setIfInBounds_toArray, List.set_cons_zero, List.set_cons_succ]
                  refine wpAnyH_take (i := 1) (v := ?_) rfl (by kernel_rfl) (by kernel_rfl) (by kernel_rfl) (fun _ _ _ h => h) (Or.inl ⟨by kernel_rfl, ?_⟩) (by assumption) ?_
                  rotate_left
                  · intro w hSw
                    (try dsimp only at hSw)
                    go_simp
                    first | done | with_reducible rfl
                  simp only [List.getElem_toArray, List.getElem_cons_zero, List.getElem_cons_succ, Act.put, List.setIfInBounds_toArray, List.set_cons_zero, List.set_cons_succ]
                  refine wpAnyH_take (i := 2) (v := ?_) rfl (by kernel_rfl) (by kernel_rfl) (by kernel_rfl) (fun _ _ _ h => h) (Or.inl ⟨by kernel_rfl, ?_⟩) (by assumption) ?_
                  rotate_left
                  · intro w hSw
                    (try dsimp only at hSw)
                    go_simp
                    first | done | with_reducible rfl
                  simp only [List.getElem_toArray, List.getElem_cons_zero, List.getElem_cons_succ, Act.put, List.setIfInBounds_toArray, List.set_cons_zero, List.set_cons_succ]
                  refine wpAnyH_take (i := 3) (v := ?_) rfl (by kernel_rfl) (by kernel_rfl) (by kernel_rfl) (fun _ _ _ h => h) (Or.inl ⟨by kernel_rfl, ?_⟩) (by assumption) ?_
                  rotate_left
                  · intro w hSw
                    (try dsimp only at hSw)
                    go_simp
                    first | done | with_reducible rfl
                  simp only [List.getElem_toArray, List.getElem_cons_zero, List.getElem_cons_succ, Act.put, List.setIfInBounds_toArray, List.set_cons_zero, List.set_cons_succ]
                  refine wpAnyH_take (i := 7) (v := ?_) rfl (by kernel_rfl) (by kernel_rfl) (by kernel_rfl) (fun _ _ _ h => h) (Or.inl ⟨by kernel_rfl, ?_⟩) (by assumption) ?_
                  rotate_left
                  · intro w hSw
                    (try dsimp only at hSw)
                    go_simp
                    first | done | with_reducible rfl
                  simp only [List.getElem_toArray, List.getElem_cons_zero, List.getElem_cons_succ, Act.put, List.setIfInBounds_toArray, List.set_cons_zero, List.set_cons_succ]
                  refine wpAnyH_ready (rs := [4]) (by kernel_rfl) (by simp) ?_
                  refine AllReadyH.cons rfl (fun K hK => ?_) ?_
                  · simp only [List.getElem_toArray, List.getElem_cons_zero, List.getElem_cons_succ]
                    go_simp
                    (with_reducible refine (result_at month LA lc ls N OA oc os M w5.drew HN HM Hmo Hls Hos (HL.out.go HG5.out.2) (HO.out.go HG5.out.2)).mono ?_)
                    rintro e U ⟨ss, rfl, hso, hsis, hscap, hBn⟩
                    dsimp only [slipV]
                    have hBu : Below w5.heap.size w5 U := below_undrew hBn
                    clear hsis hscap
                    refine hK.out _ _ ((hBn.block _ (Array.getElem?_eq_some_iff.1 HG5.out.1).1).trans HG5.out.1) (fun hHeld => ?_)
                    clear hK K
                    try simp only [List.getElem_toArray, List.getElem_cons_zero, List.getElem_cons_succ, Act.put, List.setIfInBounds_toArray, List.set_cons_zero, List.set_cons_succ]
                    refine wpAnyH_ready (rs := [5]) (by kernel_rfl) (by simp) ?_
                    refine AllReadyH.cons rfl (fun K hK => ?_) ?_
                    · simp only [List.getElem_toArray, List.getElem_cons_zero, List.getElem_cons_succ]
                      go_simp
                      obtain ⟨Un, hUn⟩ : ∃ x, x = U.alloc (.cells #[.string bperson, .int .i64 bmonth, .slice bLA bln blc, .int .i64 bgross, .int .i64 btax, .int .i64 bdeduct, .int .i64 bfloor, .slice bTA btn btc, .int .i64 bnet, .string ss.person, .int .i64 ss.month, .slice ss.LA ss.lines.length ss.lc, .int .i64 ss.gross, .int .i64 ss.tax, .int .i64 ss.deduct, .int .i64 ss.floor, .slice ss.TA ss.taken.length ss.tc, .int .i64 ss.net] 37) := ⟨_, rfl⟩
                      obtain ⟨Q2, hQ⟩ : ∃ x, x = U.heap.size := ⟨_, rfl⟩
                      have hBn2 : Below U.heap.size U Un := by rw [hUn]; exact bal (Below.refl _ _) _
                      have gQ : Un.heap[Q2]? = some (.cells #[.string bperson, .int .i64 bmonth, .slice bLA bln blc, .int .i64 bgross, .int .i64 btax, .int .i64 bdeduct, .int .i64 bfloor, .slice bTA btn btc, .int .i64 bnet, .string ss.person, .int .i64 ss.month, .slice ss.LA ss.lines.length ss.lc, .int .i64 ss.gross, .int .i64 ss.tax, .int .i64 ss.deduct, .int .i64 ss.floor, .slice ss.TA ss.taken.length ss.tc, .int .i64 ss.net] 37 (0, 0)) := by rw [hUn, hQ]; exact World.alloc_heap_new _ _
                      have hSo2 := hso.go hBn2
                      rw [← hUn]
                      try rw [← hQ]
                      clear hUn hQ
                      refine hK.out _ _ ((hBn2.block _ (Array.getElem?_eq_some_iff.1 hHeld).1).trans hHeld) (fun hHeld => ?_)
                      clear hK K
                      try simp only [List.getElem_toArray, List.getElem_cons_zero, List.getElem_cons_succ, Act.put, List.setIfInBounds_toArray, List.set_cons_zero, List.set_cons_succ]
                      refine wpAnyH_take (i := 6) (v := ?_) rfl (by kernel_rfl) (by kernel_rfl) (by kernel_rfl) (fun _ _ _ h => h) (Or.inl ⟨by kernel_rfl, ?_⟩) (by assumption) ?_
                      rotate_left
                      · intro w hSw
                        (try dsimp only at hSw)
                        go_simp
                        first | done | with_reducible rfl
                      simp only [List.getElem_toArray, List.getElem_cons_zero, List.getElem_cons_succ, Act.put, List.setIfInBounds_toArray, List.set_cons_zero, List.set_cons_succ]
                      refine wpAnyH_done (by kernel_rfl) ?_ _
                      dsimp only [NoPanic]
                      clear hHeld
                      go_wp2_with fail
                      go_meet
                      exact ⟨Q2, ss, rfl, rfl, rfl, (Array.getElem?_eq_some_iff.1 gQ).1, gQ, hSo2, bgo hBu hBn2⟩
                    exact AllReadyH.nil
                  exact AllReadyH.nil
                case rest =>
                  obtain ⟨Q2, ss, rfl, rfl, rfl, hQ2, gQ2, hso, hB6⟩ := hcut
                  obtain ⟨w6, hw6⟩ : ∃ w6, w6 = wc := ⟨_, rfl⟩
                  rw [← hw6] at gQ2 hso hB6 hQ2 ⊢
                  clear hw6 HG5
                  have hBw6 := bgo (bgo G3.out.2.2.2 Hxo5.out.2.2) hB6
                  have gc6 := (hB6.block _ (Array.getElem?_eq_some_iff.1 Hxo5.out.2.1).1).trans Hxo5.out.2.1
                  have hxo6 := Hxo5.out.1.go hB6
                  have HY : Hid (∀ j, j < 2 → ∃ ys, SlipOk w6 ys ∧ ∀ q v, (slipL ys)[q]? = some v → q < 9 → w6.cell? ⟨Q2, j * 9 + q, none⟩ = some v) := Lib.hid (fun j hj => by
                    have hct := cell_two (l1 := slipL ⟨bperson, bmonth, bLA, blc, blines, bgross, btax, bdeduct, bfloor, bTA, btc, btaken, bnet⟩) (l2 := slipL ss) (W := w6) (Q := Q2) (T := 37) (by rw [Hsb.out]; exact gQ2) rfl j hj
                    by_cases h0 : j = 0
                    · rw [if_pos h0] at hct
                      exact ⟨_, HSok.out w6 hBw6, hct⟩
                    · rw [if_neg h0] at hct
                      exact ⟨_, hso, hct⟩)
                  have H6 := Lib.hid (And.intro hxo6 (And.intro gc6 (And.intro (bgo Hxo5.out.2.2 hB6) hBw6)))
                  clear gQ2 hso hB6 hBw6 gc6 hxo6 Hxo5
                  clear w5
                  go_wp2_with fail
                  go_loopw [15, 73] (fun u i wr => ∃ j : Nat, j ≤ 2 ∧ i = .int .i64 (j : Int) ∧ u = .bool true ∧ Below w6.heap.size w6 wr) (fun _ i _ => 2 - (intOf i).toNat)
                  case atStart => exact ⟨0, Nat.zero_le _, rfl, rfl, Below.refl _ _⟩
                  case round =>
                    obtain ⟨j, hj, rfl, rfl, hB7⟩ := hrel
                    by_cases hjt : j < 2
                    · have hjt' : (j : Int) < 2 := by omega
                      obtain ⟨ys, hyo, hyc⟩ := HY.out j hjt
                      obtain ⟨E, n, RR, SS, SE, rn, bn, hRn, hnb, hrn, hbn, hrb, hbb, hrdy⟩ := pmr_ready _ ys sa w6 H6.out.1 hyo (HTb.out.go H6.out.2.2.2) hsam
                      obtain ⟨yperson, ymonth, yLA, ylc, ylines, ygross, ytax, ydeduct, yfloor, yTA, ytc, ytaken, ynet⟩ := ys
                      obtain ⟨sp, sm, sr, sb, st⟩ := SS
                      obtain ⟨yln, hyln⟩ : ∃ n, ylines.length = n := ⟨_, rfl⟩
                      obtain ⟨ytn, hytn⟩ : ∃ n, ytaken.length = n := ⟨_, rfl⟩
                      unfold slipL at hyc
                      dsimp only [caseV, slipV] at hyc hrdy hrn hbn
                      rw [hyln, hytn] at hyc
                      rw [hyln, hytn, Hxd.out.1, Hxd.out.2] at hrdy
                      have Hrdy := Lib.hid hrdy
                      have HRn := Lib.hid (And.intro hRn (And.intro hrn hbn))
                      have hcq : ∀ q v, ([.string yperson, .int .i64 ymonth, .slice yLA yln ylc, .int .i64 ygross, .int .i64 ytax, .int .i64 ydeduct, .int .i64 yfloor, .slice yTA ytn ytc, .int .i64 ynet] : List Value)[q]? = some v → q < 9 → wr.cell? ⟨Q2, j * 9 + q, none⟩ = some v := fun q v hv hq => (hB7.cell (p := ⟨Q2, j * 9 + q, none⟩) hQ2).trans (hyc q v hv hq)
                      have y0 : wr.cell? ⟨Q2, j * 9, none⟩ = some (.string yperson) := hcq 0 _ rfl (by decide)
                      have y1 : wr.cell? ⟨Q2, j * 9 + 1, none⟩ = some (.int .i64 ymonth) := hcq 1 _ rfl (by decide)
                      have y2 : wr.cell? ⟨Q2, j * 9 + 2, none⟩ = some (.slice yLA yln ylc) := hcq 2 _ rfl (by decide)
                      have y3 : wr.cell? ⟨Q2, j * 9 + 3, none⟩ = some (.int .i64 ygross) := hcq 3 _ rfl (by decide)
                      have y4 : wr.cell? ⟨Q2, j * 9 + 4, none⟩ = some (.int .i64 ytax) := hcq 4 _ rfl (by decide)
                      have y5 : wr.cell? ⟨Q2, j * 9 + 5, none⟩ = some (.int .i64 ydeduct) := hcq 5 _ rfl (by decide)
                      have y6 : wr.cell? ⟨Q2, j * 9 + 6, none⟩ = some (.int .i64 yfloor) := hcq 6 _ rfl (by decide)
                      have y7 : wr.cell? ⟨Q2, j * 9 + 7, none⟩ = some (.slice yTA ytn ytc) := hcq 7 _ rfl (by decide)
                      have y8 : wr.cell? ⟨Q2, j * 9 + 8, none⟩ = some (.int .i64 ynet) := hcq 8 _ rfl (by decide)
                      clear hrdy hyo hyc hcq hRn hrn hbn hyln hytn
                      have HB7 := Lib.hid hB7
                      clear hB7
                      go_upto_region 11 with fail
                      obtain ⟨w8, hw8⟩ : ∃ x, x = wr.alloc (.cells #[.string yperson, .int .i64 ymonth, .slice yLA yln ylc, .int .i64 ygross, .int .i64 ytax, .int .i64 ydeduct, .int .i64 yfloor, .slice yTA ytn ytc, .int .i64 ynet] 37) := ⟨_, rfl⟩
                      obtain ⟨Bs, hBs⟩ : ∃ x, x = wr.heap.size := ⟨_, rfl⟩
                      rw [← hw8]
                      rw [← hBs]
                      have hBn : Below wr.heap.size wr w8 := by rw [hw8]; exact bal (Below.refl _ _) _
                      have gs : w8.heap[Bs]? = some (.cells #[.string yperson, .int .i64 ymonth, .slice yLA yln ylc, .int .i64 ygross, .int .i64 ytax, .int .i64 ydeduct, .int .i64 yfloor, .slice yTA ytn ytc, .int .i64 ynet] 37 (0, 0)) := by rw [hw8, hBs]; exact World.alloc_heap_new _ _
                      have hB8 := bgo HB7.out hBn
                      have gc := (hB8.block _ (Array.getElem?_eq_some_iff.1 H6.out.2.1).1).trans H6.out.2.1
                      have H8 := Lib.hid (And.intro gc (And.intro gs hB8))
                      clear hw8 hBs gs gc hB8 hBn HB7 y0 y1 y2 y3 y4 y5 y6 y7 y8
                      clear wr
                      have c0 : w8.cell? ⟨Bc, 0, none⟩ = some (.slice x0a x0n x0c) := by rw [Lib.cell_of_heap H8.out.1]; rfl
                      have c1 : w8.cell? ⟨Bc, 1, none⟩ = some (.slice xDA xdn xdc) := by rw [Lib.cell_of_heap H8.out.1]; rfl
                      have c2 : w8.cell? ⟨Bc, 2, none⟩ = some (.slice xAA xan xac) := by rw [Lib.cell_of_heap H8.out.1]; rfl
                      have c3 : w8.cell? ⟨Bc, 3, none⟩ = some (.slice x3a x3n x3c) := by rw [Lib.cell_of_heap H8.out.1]; rfl
                      have c4 : w8.cell? ⟨Bc, 4, none⟩ = some (.slice x4a x4n x4c) := by rw [Lib.cell_of_heap H8.out.1]; rfl
                      have c5 : w8.cell? ⟨Bc, 5, none⟩ = some (.slice x5a x5n x5c) := by rw [Lib.cell_of_heap H8.out.1]; rfl
                      have c6 : w8.cell? ⟨Bc, 6, none⟩ = some (.slice x6a x6n x6c) := by rw [Lib.cell_of_heap H8.out.1]; rfl
                      have c7 : w8.cell? ⟨Bc, 7, none⟩ = some (.string xcur) := by rw [Lib.cell_of_heap H8.out.1]; rfl
                      have c8 : w8.cell? ⟨Bc, 8, none⟩ = some (.int .i64 xfst) := by rw [Lib.cell_of_heap H8.out.1]; rfl
                      have d0 : w8.cell? ⟨Bs, 0, none⟩ = some (.string yperson) := by rw [Lib.cell_of_heap H8.out.2.1]; rfl
                      have d1 : w8.cell? ⟨Bs, 1, none⟩ = some (.int .i64 ymonth) := by rw [Lib.cell_of_heap H8.out.2.1]; rfl
                      have d2 : w8.cell? ⟨Bs, 2, none⟩ = some (.slice yLA yln ylc) := by rw [Lib.cell_of_heap H8.out.2.1]; rfl
                      have d3 : w8.cell? ⟨Bs, 3, none⟩ = some (.int .i64 ygross) := by rw [Lib.cell_of_heap H8.out.2.1]; rfl
                      have d4 : w8.cell? ⟨Bs, 4, none⟩ = some (.int .i64 ytax) := by rw [Lib.cell_of_heap H8.out.2.1]; rfl
                      have d5 : w8.cell? ⟨Bs, 5, none⟩ = some (.int .i64 ydeduct) := by rw [Lib.cell_of_heap H8.out.2.1]; rfl
                      have d6 : w8.cell? ⟨Bs, 6, none⟩ = some (.int .i64 yfloor) := by rw [Lib.cell_of_heap H8.out.2.1]; rfl
                      have d7 : w8.cell? ⟨Bs, 7, none⟩ = some (.slice yTA ytn ytc) := by rw [Lib.cell_of_heap H8.out.2.1]; rfl
                      have d8 : w8.cell? ⟨Bs, 8, none⟩ = some (.int .i64 ynet) := by rw [Lib.cell_of_heap H8.out.2.1]; rfl
                      go_wp2_with fail
                      refine (Hrdy.out w8 H8.out.2.2).1.mono ?_
                      rintro e w9 ⟨A1, ca1, rfl, hA1, hB9⟩
                      have H9 := Lib.hid (And.intro ((hB9.block _ (Array.getElem?_eq_some_iff.1 H8.out.1).1).trans H8.out.1) (And.intro ((hB9.block _ (Array.getElem?_eq_some_iff.1 H8.out.2.1).1).trans H8.out.2.1) (bgo H8.out.2.2 hB9)))
                      have HA1 := Lib.hid hA1
                      clear c0 d0 c1 d1 c2 d2 c3 d3 c4 d4 c5 d5 c6 d6 c7 d7 c8 d8
                      clear hA1 hB9 H8
                      have c0 : w9.cell? ⟨Bc, 0, none⟩ = some (.slice x0a x0n x0c) := by rw [Lib.cell_of_heap H9.out.1]; rfl
                      have c1 : w9.cell? ⟨Bc, 1, none⟩ = some (.slice xDA xdn xdc) := by rw [Lib.cell_of_heap H9.out.1]; rfl
                      have c2 : w9.cell? ⟨Bc, 2, none⟩ = some (.slice xAA xan xac) := by rw [Lib.cell_of_heap H9.out.1]; rfl
                      have c3 : w9.cell? ⟨Bc, 3, none⟩ = some (.slice x3a x3n x3c) := by rw [Lib.cell_of_heap H9.out.1]; rfl
                      have c4 : w9.cell? ⟨Bc, 4, none⟩ = some (.slice x4a x4n x4c) := by rw [Lib.cell_of_heap H9.out.1]; rfl
                      have c5 : w9.cell? ⟨Bc, 5, none⟩ = some (.slice x5a x5n x5c) := by rw [Lib.cell_of_heap H9.out.1]; rfl
                      have c6 : w9.cell? ⟨Bc, 6, none⟩ = some (.slice x6a x6n x6c) := by rw [Lib.cell_of_heap H9.out.1]; rfl
                      have c7 : w9.cell? ⟨Bc, 7, none⟩ = some (.string xcur) := by rw [Lib.cell_of_heap H9.out.1]; rfl
                      have c8 : w9.cell? ⟨Bc, 8, none⟩ = some (.int .i64 xfst) := by rw [Lib.cell_of_heap H9.out.1]; rfl
                      have d0 : w9.cell? ⟨Bs, 0, none⟩ = some (.string yperson) := by rw [Lib.cell_of_heap H9.out.2.1]; rfl
                      have d1 : w9.cell? ⟨Bs, 1, none⟩ = some (.int .i64 ymonth) := by rw [Lib.cell_of_heap H9.out.2.1]; rfl
                      have d2 : w9.cell? ⟨Bs, 2, none⟩ = some (.slice yLA yln ylc) := by rw [Lib.cell_of_heap H9.out.2.1]; rfl
                      have d3 : w9.cell? ⟨Bs, 3, none⟩ = some (.int .i64 ygross) := by rw [Lib.cell_of_heap H9.out.2.1]; rfl
                      have d4 : w9.cell? ⟨Bs, 4, none⟩ = some (.int .i64 ytax) := by rw [Lib.cell_of_heap H9.out.2.1]; rfl
                      have d5 : w9.cell? ⟨Bs, 5, none⟩ = some (.int .i64 ydeduct) := by rw [Lib.cell_of_heap H9.out.2.1]; rfl
                      have d6 : w9.cell? ⟨Bs, 6, none⟩ = some (.int .i64 yfloor) := by rw [Lib.cell_of_heap H9.out.2.1]; rfl
                      have d7 : w9.cell? ⟨Bs, 7, none⟩ = some (.slice yTA ytn ytc) := by rw [Lib.cell_of_heap H9.out.2.1]; rfl
                      have d8 : w9.cell? ⟨Bs, 8, none⟩ = some (.int .i64 ynet) := by rw [Lib.cell_of_heap H9.out.2.1]; rfl
                      go_wp2_with fail
                      refine (Hrdy.out w9 H9.out.2.2).2.1.mono ?_
                      rintro e w10 ⟨A2, ca2, rfl, hA2, hB10⟩
                      have H10 := Lib.hid (And.intro ((hB10.block _ (Array.getElem?_eq_some_iff.1 H9.out.1).1).trans H9.out.1) (And.intro ((hB10.block _ (Array.getElem?_eq_some_iff.1 H9.out.2.1).1).trans H9.out.2.1) (bgo H9.out.2.2 hB10)))
                      have HA12 := Lib.hid (And.intro (HA1.out.go hB10) hA2)
                      clear c0 d0 c1 d1 c2 d2 c3 d3 c4 d4 c5 d5 c6 d6 c7 d7 c8 d8
                      clear hA2 hB10 H9 HA1
                      clear w9
                      have c0 : w10.cell? ⟨Bc, 0, none⟩ = some (.slice x0a x0n x0c) := by rw [Lib.cell_of_heap H10.out.1]; rfl
                      have c1 : w10.cell? ⟨Bc, 1, none⟩ = some (.slice xDA xdn xdc) := by rw [Lib.cell_of_heap H10.out.1]; rfl
                      have c2 : w10.cell? ⟨Bc, 2, none⟩ = some (.slice xAA xan xac) := by rw [Lib.cell_of_heap H10.out.1]; rfl
                      have c3 : w10.cell? ⟨Bc, 3, none⟩ = some (.slice x3a x3n x3c) := by rw [Lib.cell_of_heap H10.out.1]; rfl
                      have c4 : w10.cell? ⟨Bc, 4, none⟩ = some (.slice x4a x4n x4c) := by rw [Lib.cell_of_heap H10.out.1]; rfl
                      have c5 : w10.cell? ⟨Bc, 5, none⟩ = some (.slice x5a x5n x5c) := by rw [Lib.cell_of_heap H10.out.1]; rfl
                      have c6 : w10.cell? ⟨Bc, 6, none⟩ = some (.slice x6a x6n x6c) := by rw [Lib.cell_of_heap H10.out.1]; rfl
                      have c7 : w10.cell? ⟨Bc, 7, none⟩ = some (.string xcur) := by rw [Lib.cell_of_heap H10.out.1]; rfl
                      have c8 : w10.cell? ⟨Bc, 8, none⟩ = some (.int .i64 xfst) := by rw [Lib.cell_of_heap H10.out.1]; rfl
                      have d0 : w10.cell? ⟨Bs, 0, none⟩ = some (.string yperson) := by rw [Lib.cell_of_heap H10.out.2.1]; rfl
                      have d1 : w10.cell? ⟨Bs, 1, none⟩ = some (.int .i64 ymonth) := by rw [Lib.cell_of_heap H10.out.2.1]; rfl
                      have d2 : w10.cell? ⟨Bs, 2, none⟩ = some (.slice yLA yln ylc) := by rw [Lib.cell_of_heap H10.out.2.1]; rfl
                      have d3 : w10.cell? ⟨Bs, 3, none⟩ = some (.int .i64 ygross) := by rw [Lib.cell_of_heap H10.out.2.1]; rfl
                      have d4 : w10.cell? ⟨Bs, 4, none⟩ = some (.int .i64 ytax) := by rw [Lib.cell_of_heap H10.out.2.1]; rfl
                      have d5 : w10.cell? ⟨Bs, 5, none⟩ = some (.int .i64 ydeduct) := by rw [Lib.cell_of_heap H10.out.2.1]; rfl
                      have d6 : w10.cell? ⟨Bs, 6, none⟩ = some (.int .i64 yfloor) := by rw [Lib.cell_of_heap H10.out.2.1]; rfl
                      have d7 : w10.cell? ⟨Bs, 7, none⟩ = some (.slice yTA ytn ytc) := by rw [Lib.cell_of_heap H10.out.2.1]; rfl
                      have d8 : w10.cell? ⟨Bs, 8, none⟩ = some (.int .i64 ynet) := by rw [Lib.cell_of_heap H10.out.2.1]; rfl
                      go_wp2_with fail
                      refine (Hrdy.out w10 H10.out.2.2).2.2.1.mono ?_
                      rintro e w11 ⟨A3, ca3, B3, cb3, rfl, hA3, hB3, hB11⟩
                      have H11 := Lib.hid (And.intro ((hB11.block _ (Array.getElem?_eq_some_iff.1 H10.out.1).1).trans H10.out.1) (And.intro ((hB11.block _ (Array.getElem?_eq_some_iff.1 H10.out.2.1).1).trans H10.out.2.1) (bgo H10.out.2.2 hB11)))
                      have HA34 := Lib.hid (And.intro (HA12.out.1.go hB11) (And.intro (HA12.out.2.go hB11) (And.intro hA3 hB3)))
                      clear c0 d0 c1 d1 c2 d2 c3 d3 c4 d4 c5 d5 c6 d6 c7 d7 c8 d8
                      clear hA3 hB3 hB11 H10 HA12
                      dsimp only
                      go_upto_region 14 with fail
                      obtain ⟨w12, hw12⟩ : ∃ x, x = w11.alloc (.cells #[.string sp, .int .i64 sm, .slice A3 rn ca3, .slice B3 bn cb3, .int .u64 st.toNat] 43) := ⟨_, rfl⟩
                      obtain ⟨X1, hX1⟩ : ∃ x, x = w11.heap.size := ⟨_, rfl⟩
                      rw [← hw12]
                      rw [← hX1]
                      have hBn : Below w11.heap.size w11 w12 := by rw [hw12]; exact bal (Below.refl _ _) _
                      have gx : w12.heap[X1]? = some (.cells #[.string sp, .int .i64 sm, .slice A3 rn ca3, .slice B3 bn cb3, .int .u64 st.toNat] 43 (0, 0)) := by rw [hw12, hX1]; exact World.alloc_heap_new _ _
                      have HX1 := Lib.hid gx
                      have HA5 := Lib.hid (And.intro (HA34.out.1.go hBn) (And.intro (HA34.out.2.1.go hBn) (And.intro (HA34.out.2.2.1.go hBn) (HA34.out.2.2.2.go hBn))))
                      have H12 := Lib.hid (And.intro ((hBn.block _ (Array.getElem?_eq_some_iff.1 H11.out.1).1).trans H11.out.1) (And.intro ((hBn.block _ (Array.getElem?_eq_some_iff.1 H11.out.2.1).1).trans H11.out.2.1) (bgo H11.out.2.2 hBn)))
                      clear hw12 hX1 gx hBn HA34 H11
                      clear w11
                      have c0 : w12.cell? ⟨Bc, 0, none⟩ = some (.slice x0a x0n x0c) := by rw [Lib.cell_of_heap H12.out.1]; rfl
                      have c1 : w12.cell? ⟨Bc, 1, none⟩ = some (.slice xDA xdn xdc) := by rw [Lib.cell_of_heap H12.out.1]; rfl
                      have c2 : w12.cell? ⟨Bc, 2, none⟩ = some (.slice xAA xan xac) := by rw [Lib.cell_of_heap H12.out.1]; rfl
                      have c3 : w12.cell? ⟨Bc, 3, none⟩ = some (.slice x3a x3n x3c) := by rw [Lib.cell_of_heap H12.out.1]; rfl
                      have c4 : w12.cell? ⟨Bc, 4, none⟩ = some (.slice x4a x4n x4c) := by rw [Lib.cell_of_heap H12.out.1]; rfl
                      have c5 : w12.cell? ⟨Bc, 5, none⟩ = some (.slice x5a x5n x5c) := by rw [Lib.cell_of_heap H12.out.1]; rfl
                      have c6 : w12.cell? ⟨Bc, 6, none⟩ = some (.slice x6a x6n x6c) := by rw [Lib.cell_of_heap H12.out.1]; rfl
                      have c7 : w12.cell? ⟨Bc, 7, none⟩ = some (.string xcur) := by rw [Lib.cell_of_heap H12.out.1]; rfl
                      have c8 : w12.cell? ⟨Bc, 8, none⟩ = some (.int .i64 xfst) := by rw [Lib.cell_of_heap H12.out.1]; rfl
                      have d0 : w12.cell? ⟨Bs, 0, none⟩ = some (.string yperson) := by rw [Lib.cell_of_heap H12.out.2.1]; rfl
                      have d1 : w12.cell? ⟨Bs, 1, none⟩ = some (.int .i64 ymonth) := by rw [Lib.cell_of_heap H12.out.2.1]; rfl
                      have d2 : w12.cell? ⟨Bs, 2, none⟩ = some (.slice yLA yln ylc) := by rw [Lib.cell_of_heap H12.out.2.1]; rfl
                      have d3 : w12.cell? ⟨Bs, 3, none⟩ = some (.int .i64 ygross) := by rw [Lib.cell_of_heap H12.out.2.1]; rfl
                      have d4 : w12.cell? ⟨Bs, 4, none⟩ = some (.int .i64 ytax) := by rw [Lib.cell_of_heap H12.out.2.1]; rfl
                      have d5 : w12.cell? ⟨Bs, 5, none⟩ = some (.int .i64 ydeduct) := by rw [Lib.cell_of_heap H12.out.2.1]; rfl
                      have d6 : w12.cell? ⟨Bs, 6, none⟩ = some (.int .i64 yfloor) := by rw [Lib.cell_of_heap H12.out.2.1]; rfl
                      have d7 : w12.cell? ⟨Bs, 7, none⟩ = some (.slice yTA ytn ytc) := by rw [Lib.cell_of_heap H12.out.2.1]; rfl
                      have d8 : w12.cell? ⟨Bs, 8, none⟩ = some (.int .i64 ynet) := by rw [Lib.cell_of_heap H12.out.2.1]; rfl
                      go_wp2_with fail
                      refine (Hrdy.out w12 H12.out.2.2).2.2.2.mono ?_
                      rintro e w13 ⟨A4, ca4, B4, cb4, rfl, hA4, hB4, hB13⟩
                      have H13 := Lib.hid (And.intro ((hB13.block _ (Array.getElem?_eq_some_iff.1 H12.out.1).1).trans H12.out.1) (And.intro ((hB13.block _ (Array.getElem?_eq_some_iff.1 H12.out.2.1).1).trans H12.out.2.1) (bgo H12.out.2.2 hB13)))
                      have gx1 := (hB13.block _ (Array.getElem?_eq_some_iff.1 HX1.out).1).trans HX1.out
                      have HA6 := Lib.hid (And.intro (HA5.out.1.go hB13) (And.intro (HA5.out.2.1.go hB13) (And.intro (HA5.out.2.2.1.go hB13) (And.intro (HA5.out.2.2.2.go hB13) (And.intro hA4 hB4)))))
                      have HX2 := Lib.hid gx1
                      clear c0 d0 c1 d1 c2 d2 c3 d3 c4 d4 c5 d5 c6 d6 c7 d7 c8 d8
                      clear hA4 hB4 hB13 H12 HA5 HX1 gx1
                      clear w12
                      dsimp only
                      go_upto_region 15 with fail
                      obtain ⟨w14, hw14⟩ : ∃ x, x = w13.alloc (.cells #[.string sp, .int .i64 sm, .slice A4 rn ca4, .slice B4 bn cb4, .int .u64 st.toNat] 43) := ⟨_, rfl⟩
                      obtain ⟨X2, hX2⟩ : ∃ x, x = w13.heap.size := ⟨_, rfl⟩
                      rw [← hw14]
                      rw [← hX2]
                      have hBn : Below w13.heap.size w13 w14 := by rw [hw14]; exact bal (Below.refl _ _) _
                      have gx2 : w14.heap[X2]? = some (.cells #[.string sp, .int .i64 sm, .slice A4 rn ca4, .slice B4 bn cb4, .int .u64 st.toNat] 43 (0, 0)) := by rw [hw14, hX2]; exact World.alloc_heap_new _ _
                      have gx1 := (hBn.block _ (Array.getElem?_eq_some_iff.1 HX2.out).1).trans HX2.out
                      have HX3 := Lib.hid (And.intro gx1 gx2)
                      have HA7 := Lib.hid (And.intro (HA6.out.1.go hBn) (And.intro (HA6.out.2.1.go hBn) (And.intro (HA6.out.2.2.1.go hBn) (And.intro (HA6.out.2.2.2.1.go hBn) (And.intro (HA6.out.2.2.2.2.1.go hBn) (HA6.out.2.2.2.2.2.go hBn))))))
                      have hB14 := bgo H13.out.2.2 hBn
                      have HB14 := Lib.hid hB14
                      clear hw14 hX2 gx1 gx2 hBn HA6 H13 HX2 hB14
                      clear w13
                      go_wp2_with fail
                      refine (samerows_eq A1 A2 ca1 ca2 n RR w14 HRn.out.1 HA7.out.1 HA7.out.2.1 (by omega)).mono ?_
                      rintro e w15 ⟨rfl, hB15⟩
                      have gx1 := (hB15.block _ (Array.getElem?_eq_some_iff.1 HX3.out.1).1).trans HX3.out.1
                      have gx2 := (hB15.block _ (Array.getElem?_eq_some_iff.1 HX3.out.2).1).trans HX3.out.2
                      have x0 : w15.cell? ⟨X1, 0, none⟩ = some (.string sp) := by rw [Lib.cell_of_heap gx1]; rfl
                      have x1 : w15.cell? ⟨X1, 1, none⟩ = some (.int .i64 sm) := by rw [Lib.cell_of_heap gx1]; rfl
                      have x2 : w15.cell? ⟨X1, 2, none⟩ = some (.slice A3 rn ca3) := by rw [Lib.cell_of_heap gx1]; rfl
                      have x3 : w15.cell? ⟨X1, 3, none⟩ = some (.slice B3 bn cb3) := by rw [Lib.cell_of_heap gx1]; rfl
                      have x4 : w15.cell? ⟨X1, 4, none⟩ = some (.int .u64 st.toNat) := by rw [Lib.cell_of_heap gx1]; rfl
                      have z0 : w15.cell? ⟨X2, 0, none⟩ = some (.string sp) := by rw [Lib.cell_of_heap gx2]; rfl
                      have z1 : w15.cell? ⟨X2, 1, none⟩ = some (.int .i64 sm) := by rw [Lib.cell_of_heap gx2]; rfl
                      have z2 : w15.cell? ⟨X2, 2, none⟩ = some (.slice A4 rn ca4) := by rw [Lib.cell_of_heap gx2]; rfl
                      have z3 : w15.cell? ⟨X2, 3, none⟩ = some (.slice B4 bn cb4) := by rw [Lib.cell_of_heap gx2]; rfl
                      have z4 : w15.cell? ⟨X2, 4, none⟩ = some (.int .u64 st.toNat) := by rw [Lib.cell_of_heap gx2]; rfl
                      have hEE : (E == E) = true := by simp
                      have hSE : (SE == SE) = true := by simp
                      clear gx1 gx2 HX3
                      go_wp2_with fail
                      refine (same35_eq sp sm A3 B3 A4 B4 ca3 cb3 ca4 cb4 rn bn sr sb st w15 HRn.out.2.1 HRn.out.2.2 (HA7.out.2.2.1.go hB15) (HA7.out.2.2.2.2.1.go hB15) (HA7.out.2.2.2.1.go hB15) (HA7.out.2.2.2.2.2.go hB15) (by omega) (by omega)).mono ?_
                      rintro e w16 ⟨rfl, hB16⟩
                      have HB16 := Lib.hid (bgo (bgo HB14.out hB15) hB16)
                      clear x0 x1 x2 x3 x4 z0 z1 z2 z3 z4 hB15 hB16 HB14 HA7
                      go_wp2_with fail
                      go_roundw
                      case rel => exact ⟨j + 1, by omega, by go_num, rfl, HB16.out⟩
                      case measure => simp [intOf]; omega
                    · obtain rfl : j = 2 := by omega
                      have HB8 := Lib.hid (bgo H6.out.2.2.1 hB7)
                      clear hB7
                      go_wp2_with fail
                      go_roundw
                      case rel => exact ⟨k + 1, by omega, by go_num, rfl, HB8.out⟩
                      case measure => simp [intOf]; omega
              · obtain rfl : k = 2 := by omega
                have HB9 := Lib.hid hB4
                have hBe9 := bgo G3.out.2.2.2 hB4
                have HG9 := Lib.hid ((hB4.block _ (Array.getElem?_eq_some_iff.1 G3.out.2.2.1).1).trans G3.out.2.2.1)
                clear hB4
                go_wp2_with fail
                refine (case_any wr).mono ?_
                rintro e w4 ⟨zLA, zAA, rfl, hCo, hB10⟩
                have hBe10 := bgo hBe9 hB10
                have gp10 := (hB10.block _ (Array.getElem?_eq_some_iff.1 HG9.out).1).trans HG9.out
                have HG10 := Lib.hid gp10
                clear gp10 HB9 HG9 hBe9 hB10
                clear wr
                go_wp2_with fail
                (with_reducible refine (result_at month LA lc ls N OA oc os M w4 HN HM Hmo Hls Hos (HL.out.go hBe10) (HO.out.go hBe10)).mono ?_)
                rintro e w5 ⟨ss, rfl, hso, hsis, hscap, hB11⟩
                have hCo5 := hCo.go hB11
                have hBe11 := bgo hBe10 hB11
                have gp11 := (hB11.block _ (Array.getElem?_eq_some_iff.1 HG10.out).1).trans HG10.out
                have hok := seal_ok (seed := sa) hCo5 hso
                have hse := (rSeal_any _ ss sa w5 hCo5 hso hsam)
                obtain ⟨SS, hSS⟩ : ∃ x, sealS (case0 zLA zAA) ss sa = x := ⟨_, rfl⟩
                obtain ⟨SE, hSE⟩ : ∃ x, sealE (case0 zLA zAA) ss sa = x := ⟨_, rfl⟩
                rw [hSS, hSE] at hse
                rw [hSS] at hok
                obtain ⟨sp, sm, sr, sb, st⟩ := SS
                obtain ⟨cv, hcv⟩ : ∃ x, caseV (case0 zLA zAA) = x := ⟨_, rfl⟩
                obtain ⟨sv, hsv⟩ : ∃ x, slipV ss = x := ⟨_, rfl⟩
                rw [hcv, hsv] at hse ⊢
                have Hse := Lib.hid hse
                have Hok := Lib.hid hok
                have HG11 := Lib.hid gp11
                have HBe := Lib.hid hBe11
                dsimp only at Hok
                clear hSS hSE hcv hsv hse hok hCo hCo5 hso hsis hscap hB11 hBe10 gp11 HG10
                clear w4
                go_wp2_with fail
                refine Hse.out.mono ?_
                rintro e w6 ⟨A3, ca3, B3, cb3, rfl, _, _, hA3, hB3, hB12⟩
                dsimp only at hA3 hB3 ⊢
                obtain ⟨rn, hrn⟩ : ∃ n, sr.length = n := ⟨_, rfl⟩
                obtain ⟨bn, hbn⟩ : ∃ n, sb.length = n := ⟨_, rfl⟩
                rw [hrn, hbn]
                rw [hrn] at hA3
                rw [hbn] at hB3
                have gp12 := (hB12.block _ (Array.getElem?_eq_some_iff.1 HG11.out).1).trans HG11.out
                have hBe12 := bgo HBe.out hB12
                clear Hse HBe HG11 hB12
                go_upto_region 19 with fail
                obtain ⟨w7, hw7⟩ : ∃ x, x = w6.alloc (.cells #[.string sp, .int .i64 sm, .slice A3 rn ca3, .slice B3 bn cb3, .int .u64 st.toNat] 43) := ⟨_, rfl⟩
                obtain ⟨X3, hX3⟩ : ∃ x, x = w6.heap.size := ⟨_, rfl⟩
                rw [← hw7]
                rw [← hX3]
                have hBn : Below w6.heap.size w6 w7 := by rw [hw7]; exact bal (Below.refl _ _) _
                have gx3 : w7.heap[X3]? = some (.cells #[.string sp, .int .i64 sm, .slice A3 rn ca3, .slice B3 bn cb3, .int .u64 st.toNat] 43 (0, 0)) := by rw [hw7, hX3]; exact World.alloc_heap_new _ _
                have gp7 := (hBn.block _ (Array.getElem?_eq_some_iff.1 gp12).1).trans gp12
                have hBe7 := bgo hBe12 hBn
                have hA7 := hA3.go hBn
                have hB7 := hB3.go hBn
                obtain ⟨v2, hv2⟩ : ∃ v, validB sp sm sr sb st = v := ⟨_, rfl⟩
                have HV2 : Hid (∀ W, Below w7.heap.size w7 W → _) := Lib.hid (fun W hW => And.intro (valid35_any sp sm A3 B3 ca3 cb3 rn bn sr sb st v2 (Lib.hid hv2) W (HTb.out.go (bgo hBe7 hW)) (hA7.go hW) (hB7.go hW) hrn hbn (by rw [← hrn]; have := Hok.out.2.1; unfold maxLen; omega) (by rw [← hbn]; have := Hok.out.2.2.1; unfold maxLen; omega) (by have := Hok.out.1; unfold maxLen; omega) Hok.out.2.2.2.1 Hok.out.2.2.2.2) (rvalid35_any sp sm A3 B3 ca3 cb3 rn bn sr sb st v2 (Lib.hid hv2) W (hA7.go hW) (hB7.go hW) hrn hbn (by rw [← hrn]; have := Hok.out.2.1; unfold maxLen; omega) (by rw [← hbn]; have := Hok.out.2.2.1; unfold maxLen; omega) (by have := Hok.out.1; unfold maxLen; omega) Hok.out.2.2.2.1 Hok.out.2.2.2.2))
                obtain ⟨tl, htl⟩ : ∃ t, leafB sa month pp = t := ⟨_, rfl⟩
                have Htl := Lib.hid htl
                have hmI := Hmo.out
                have hmJ : -9223372036854775808 ≤ month ∧ month ≤ 9223372036854775807 := Hmo.out
                have hl1 : sa.size ≤ 70368744177000 := by omega
                have hl2 : pp.size ≤ 70368744177000 := by omega
                have hq3 : ∀ W : World, W.heap[w.heap.size + 2]? = some (.cells #[.string pp, .int .i64 pm, .slice PA pn pca, .slice PB pk pcb, .int .u64 pr.toNat] 43 (0, 0)) → W.cell? ⟨w.heap.size + 2, 0, none⟩ = some (.string pp) ∧ W.cell? ⟨w.heap.size + 2, 1, none⟩ = some (.int .i64 pm) ∧ W.cell? ⟨w.heap.size + 2, 2, none⟩ = some (.slice PA pn pca) ∧ W.cell? ⟨w.heap.size + 2, 3, none⟩ = some (.slice PB pk pcb) ∧ W.cell? ⟨w.heap.size + 2, 4, none⟩ = some (.int .u64 pr.toNat) := fun W hW => ⟨by rw [Lib.cell_of_heap hW]; rfl, by rw [Lib.cell_of_heap hW]; rfl, by rw [Lib.cell_of_heap hW]; rfl, by rw [Lib.cell_of_heap hW]; rfl, by rw [Lib.cell_of_heap hW]; rfl⟩
                have hq4 : ∀ W : World, W.heap[X3]? = some (.cells #[.string sp, .int .i64 sm, .slice A3 rn ca3, .slice B3 bn cb3, .int .u64 st.toNat] 43 (0, 0)) → W.cell? ⟨X3, 0, none⟩ = some (.string sp) ∧ W.cell? ⟨X3, 1, none⟩ = some (.int .i64 sm) ∧ W.cell? ⟨X3, 2, none⟩ = some (.slice A3 rn ca3) ∧ W.cell? ⟨X3, 3, none⟩ = some (.slice B3 bn cb3) ∧ W.cell? ⟨X3, 4, none⟩ = some (.int .u64 st.toNat) := fun W hW => ⟨by rw [Lib.cell_of_heap hW]; rfl, by rw [Lib.cell_of_heap hW]; rfl, by rw [Lib.cell_of_heap hW]; rfl, by rw [Lib.cell_of_heap hW]; rfl, by rw [Lib.cell_of_heap hW]; rfl⟩
                have HQ3 := Lib.hid hq3
                have HQ4 := Lib.hid hq4
                have HH0 := Lib.hid (show Below w7.heap.size w7 w7.drew from (Below.refl _ _).drew)
                have HBe7 := Lib.hid hBe7
                have HGP := Lib.hid (And.intro gp7 gx3)
                clear hw7 hX3 hBn gx3 gp7 gp12 hBe12 hA3 hB3 hA7 hB7 hv2 htl hq3 hq4 hBe7 hrn hbn
                clear w6
                refine wp_region_noPanic ?_
                refine wp_region_held_drew (S := fun W => Below w7.heap.size w7 W) (by kernel_rfl) HH0.out (fun hHeld => ?_)
                have hvv : (v == v) = true := by simp
                have hvv2 : (v2 == v2) = true := by simp
                have htt : (tl.toList == tl.toList) = true := by simp
                apply share1 (fun (U : World) => (Below w7.heap.size w7 U))
                case h1 =>
                  intro h_3_5_10_12_20_25
                  apply share1 (fun (U : World) => (Below w7.heap.size w7 U))
                  case h1 =>
                    intro h_3_5_10_12_20
                    apply share1 (fun (U : World) => (Below w7.heap.size w7 U))
                    case h1 =>
                      intro h_3_5_10_12
                      apply share1 (fun (U : World) => (Below w7.heap.size w7 U))
                      case h1 =>
                        intro h_3_5_10
                        apply share1 (fun (U : World) => (Below w7.heap.size w7 U))
                        case h1 =>
                          intro h_3_5
                          apply share1 (fun (U : World) => (Below w7.heap.size w7 U))
                          case h1 =>
                            intro h_3
                            refine wpAnyH_take (i := 0) (v := ?_) rfl (by kernel_rfl) (by kernel_rfl) (by kernel_rfl) (fun _ _ _ h => h) (Or.inl ⟨by kernel_rfl, ?_⟩) (by assumption) ?_
                            rotate_left
                            · intro w hSw
                              (try dsimp only at hSw)
                              go_simp
                              first | done | with_reducible rfl
                            simp only [List.getElem_toArray, List.getElem_cons_zero, List.getElem_cons_succ, Act.put, List.setIfInBounds_toArray, List.set_cons_zero, List.set_cons_succ]
                            refine wpAnyH_take (i := 1) (v := ?_) rfl (by kernel_rfl) (by kernel_rfl) (by kernel_rfl) (fun _ _ _ h => h) (Or.inl ⟨by kernel_rfl, ?_⟩) (by assumption) ?_
                            rotate_left
                            · intro w hSw
                              (try dsimp only at hSw)
                              go_simp
                              first | done | with_reducible rfl
                            simp only [List.getElem_toArray, List.getElem_cons_zero, List.getElem_cons_succ, Act.put, List.setIfInBounds_toArray, List.set_cons_zero, List.set_cons_succ]
                            refine wpAnyH_take (i := 2) (v := ?_) rfl (by kernel_rfl) (by kernel_rfl) (by kernel_rfl) (fun _ _ _ h => h) (Or.inl ⟨by kernel_rfl, ?_⟩) (by assumption) ?_
                            rotate_left
                            · intro w hSw
                              (try dsimp only at hSw)
                              obtain ⟨z0, z1, z2, z3, z4⟩ := HQ3.out w ((hSw.block _ (Array.getElem?_eq_some_iff.1 HGP.out.1).1).trans HGP.out.1)
                              go_simp
                              first | done | with_reducible rfl
                            simp only [List.getElem_toArray, List.getElem_cons_zero, List.getElem_cons_succ, Act.put, List.setIfInBounds_toArray, List.set_cons_zero, List.set_cons_succ]
                            refine wpAnyH_take (i := 4) (v := ?_) rfl (by kernel_rfl) (by kernel_rfl) (by kernel_rfl) (fun _ _ _ h => h) (Or.inl ⟨by kernel_rfl, ?_⟩) (by assumption) ?_
                            rotate_left
                            · intro w hSw
                              (try dsimp only at hSw)
                              obtain ⟨z0, z1, z2, z3, z4⟩ := HQ3.out w ((hSw.block _ (Array.getElem?_eq_some_iff.1 HGP.out.1).1).trans HGP.out.1)
                              go_simp
                              first | done | with_reducible rfl
                            simp only [List.getElem_toArray, List.getElem_cons_zero, List.getElem_cons_succ, Act.put, List.setIfInBounds_toArray, List.set_cons_zero, List.set_cons_succ]
                            refine wpAnyH_ready (rs := [3]) (by kernel_rfl) (by simp) ?_
                            refine AllReadyH.cons rfl (fun K hK => ?_) ?_
                            · simp only [List.getElem_toArray, List.getElem_cons_zero, List.getElem_cons_succ]
                              go_simp
                              (with_reducible refine ((Hvalid.out w7.drew (bgo HBe7.out HH0.out)).1).mono ?_)
                              rintro e Un ⟨rfl, hBn⟩
                              dsimp only
                              refine hK.out _ _ (bgo HH0.out hBn) (fun hHeldn => ?_)
                              clear hK K
                              try simp only [List.getElem_toArray, List.getElem_cons_zero, List.getElem_cons_succ, Act.put, List.setIfInBounds_toArray, List.set_cons_zero, List.set_cons_succ]
                              exact h_3 Un hHeldn
                            exact AllReadyH.nil
                          case h2 =>
                            intro U hF
                            have hHeld := hF
                            refine wpAnyH_ready (rs := [5]) (by kernel_rfl) (by simp) ?_
                            refine AllReadyH.cons rfl (fun K hK => ?_) ?_
                            · simp only [List.getElem_toArray, List.getElem_cons_zero, List.getElem_cons_succ]
                              go_simp
                              (with_reducible refine ((Hvalid.out U (bgo HBe7.out hHeld)).2).mono ?_)
                              rintro e Un ⟨rfl, hBn⟩
                              dsimp only
                              refine hK.out _ _ (bgo hHeld hBn) (fun hHeldn => ?_)
                              clear hK K
                              try simp only [List.getElem_toArray, List.getElem_cons_zero, List.getElem_cons_succ, Act.put, List.setIfInBounds_toArray, List.set_cons_zero, List.set_cons_succ]
                              refine wpAnyH_take (i := 6) (v := .bool true) rfl (by kernel_rfl) (by kernel_rfl) (by kernel_rfl) (fun _ _ _ h => h) (Or.inl ⟨by kernel_rfl, ?_⟩) (by assumption) ?_
                              · intro w hSw
                                (try dsimp only at hSw)
                                go_simp
                                first | done | with_reducible rfl
                              simp only [List.getElem_toArray, List.getElem_cons_zero, List.getElem_cons_succ, Act.put, List.setIfInBounds_toArray, List.set_cons_zero, List.set_cons_succ]
                              refine wpAnyH_take (i := 7) (v := .bool true) rfl (by kernel_rfl) (by kernel_rfl) (by kernel_rfl) (fun _ _ _ h => h) (Or.inl ⟨by kernel_rfl, ?_⟩) (by assumption) ?_
                              · intro w hSw
                                (try dsimp only at hSw)
                                go_simp
                                first | done | with_reducible rfl
                              simp only [List.getElem_toArray, List.getElem_cons_zero, List.getElem_cons_succ, Act.put, List.setIfInBounds_toArray, List.set_cons_zero, List.set_cons_succ]
                              refine wpAnyH_take (i := 8) (v := ?_) rfl (by kernel_rfl) (by kernel_rfl) (by kernel_rfl) (fun _ _ _ h => h) (Or.inl ⟨by kernel_rfl, ?_⟩) (by assumption) ?_
                              rotate_left
                              · intro w hSw
                                (try dsimp only at hSw)
                                go_simp
                                first | done | with_reducible rfl
                              simp only [List.getElem_toArray, List.getElem_cons_zero, List.getElem_cons_succ, Act.put, List.setIfInBounds_toArray, List.set_cons_zero, List.set_cons_succ]
                              refine wpAnyH_take (i := 9) (v := ?_) rfl (by kernel_rfl) (by kernel_rfl) (by kernel_rfl) (fun _ _ _ h => h) (Or.inl ⟨by kernel_rfl, ?_⟩) (by assumption) ?_
                              rotate_left
                              · intro w hSw
                                (try dsimp only at hSw)
                                obtain ⟨z0, z1, z2, z3, z4⟩ := HQ4.out w ((hSw.block _ (Array.getElem?_eq_some_iff.1 HGP.out.2).1).trans HGP.out.2)
                                go_simp
                                first | done | with_reducible rfl
                              simp only [List.getElem_toArray, List.getElem_cons_zero, List.getElem_cons_succ, Act.put, List.setIfInBounds_toArray, List.set_cons_zero, List.set_cons_succ]
                              refine wpAnyH_take (i := 11) (v := ?_) rfl (by kernel_rfl) (by kernel_rfl) (by kernel_rfl) (fun _ _ _ h => h) (Or.inl ⟨by kernel_rfl, ?_⟩) (by assumption) ?_
                              rotate_left
                              · intro w hSw
                                (try dsimp only at hSw)
                                obtain ⟨z0, z1, z2, z3, z4⟩ := HQ4.out w ((hSw.block _ (Array.getElem?_eq_some_iff.1 HGP.out.2).1).trans HGP.out.2)
                                go_simp
                                first | done | with_reducible rfl
                              simp only [List.getElem_toArray, List.getElem_cons_zero, List.getElem_cons_succ, Act.put, List.setIfInBounds_toArray, List.set_cons_zero, List.set_cons_succ]
                              exact h_3_5 Un hHeldn
                            exact AllReadyH.nil
                        case h2 =>
                          intro U hF
                          have hHeld := hF
                          refine wpAnyH_ready (rs := [10]) (by kernel_rfl) (by simp) ?_
                          refine AllReadyH.cons rfl (fun K hK => ?_) ?_
                          · simp only [List.getElem_toArray, List.getElem_cons_zero, List.getElem_cons_succ]
                            go_simp
                            (with_reducible refine ((HV2.out U hHeld).1).mono ?_)
                            rintro e Un ⟨rfl, hBn⟩
                            dsimp only
                            refine hK.out _ _ (bgo hHeld hBn) (fun hHeldn => ?_)
                            clear hK K
                            try simp only [List.getElem_toArray, List.getElem_cons_zero, List.getElem_cons_succ, Act.put, List.setIfInBounds_toArray, List.set_cons_zero, List.set_cons_succ]
                            exact h_3_5_10 Un hHeldn
                          exact AllReadyH.nil
                      case h2 =>
                        intro U hF
                        have hHeld := hF
                        refine wpAnyH_ready (rs := [12]) (by kernel_rfl) (by simp) ?_
                        refine AllReadyH.cons rfl (fun K hK => ?_) ?_
                        · simp only [List.getElem_toArray, List.getElem_cons_zero, List.getElem_cons_succ]
                          go_simp
                          (with_reducible refine ((HV2.out U hHeld).2).mono ?_)
                          rintro e Un ⟨rfl, hBn⟩
                          dsimp only
                          refine hK.out _ _ (bgo hHeld hBn) (fun hHeldn => ?_)
                          clear hK K
                          try simp only [List.getElem_toArray, List.getElem_cons_zero, List.getElem_cons_succ, Act.put, List.setIfInBounds_toArray, List.set_cons_zero, List.set_cons_succ]
                          refine wpAnyH_take (i := 13) (v := .bool true) rfl (by kernel_rfl) (by kernel_rfl) (by kernel_rfl) (fun _ _ _ h => h) (Or.inl ⟨by kernel_rfl, ?_⟩) (by assumption) ?_
                          · intro w hSw
                            (try dsimp only at hSw)
                            go_simp
                            first | done | with_reducible rfl
                          simp only [List.getElem_toArray, List.getElem_cons_zero, List.getElem_cons_succ, Act.put, List.setIfInBounds_toArray, List.set_cons_zero, List.set_cons_succ]
                          refine wpAnyH_take (i := 14) (v := .bool true) rfl (by kernel_rfl) (by kernel_rfl) (by kernel_rfl) (fun _ _ _ h => h) (Or.inl ⟨by kernel_rfl, ?_⟩) (by assumption) ?_
                          · intro w hSw
                            (try dsimp only at hSw)
                            go_simp
                            first | done | with_reducible rfl
                          simp only [List.getElem_toArray, List.getElem_cons_zero, List.getElem_cons_succ, Act.put, List.setIfInBounds_toArray, List.set_cons_zero, List.set_cons_succ]
                          refine wpAnyH_take (i := 15) (v := ?_) rfl (by kernel_rfl) (by kernel_rfl) (by kernel_rfl) (fun _ _ _ h => h) (Or.inl ⟨by kernel_rfl, ?_⟩) (by assumption) ?_
                          rotate_left
                          · intro w hSw
                            (try dsimp only at hSw)
                            go_simp
                            first | done | with_reducible rfl
                          simp only [List.getElem_toArray, List.getElem_cons_zero, List.getElem_cons_succ, Act.put, List.setIfInBounds_toArray, List.set_cons_zero, List.set_cons_succ]
                          refine wpAnyH_take (i := 16) (v := ?_) rfl (by kernel_rfl) (by kernel_rfl) (by kernel_rfl) (fun _ _ _ h => h) (Or.inl ⟨by kernel_rfl, ?_⟩) (by assumption) ?_
                          rotate_left
                          · intro w hSw
                            (try dsimp only at hSw)
                            go_simp
                            first | done | with_reducible rfl
                          simp only [List.getElem_toArray, List.getElem_cons_zero, List.getElem_cons_succ, Act.put, List.setIfInBounds_toArray, List.set_cons_zero, List.set_cons_succ]
                          refine wpAnyH_take (i := 17) (v := ?_) rfl (by kernel_rfl) (by kernel_rfl) (by kernel_rfl) (fun _ _ _ h => h) (Or.inl ⟨by kernel_rfl, ?_⟩) (by assumption) ?_
                          rotate_left
                          · intro w hSw
                            (try dsimp only at hSw)
                            go_simp
                            first | done | with_reducible rfl
                          simp only [List.getElem_toArray, List.getElem_cons_zero, List.getElem_cons_succ, Act.put, List.setIfInBounds_toArray, List.set_cons_zero, List.set_cons_succ]
                          refine wpAnyH_take (i := 18) (v := ?_) rfl (by kernel_rfl) (by kernel_rfl) (by kernel_rfl) (fun _ _ _ h => h) (Or.inl ⟨by kernel_rfl, ?_⟩) (by assumption) ?_
                          rotate_left
                          · intro w hSw
                            (try dsimp only at hSw)
                            go_simp
                            first | done | with_reducible rfl
                          simp only [List.getElem_toArray, List.getElem_cons_zero, List.getElem_cons_succ, Act.put, List.setIfInBounds_toArray, List.set_cons_zero, List.set_cons_succ]
                          refine wpAnyH_take (i := 19) (v := ?_) rfl (by kernel_rfl) (by kernel_rfl) (by kernel_rfl) (fun _ _ _ h => h) (Or.inl ⟨by kernel_rfl, ?_⟩) (by assumption) ?_
                          rotate_left
                          · intro w hSw
                            (try dsimp only at hSw)
                            obtain ⟨z0, z1, z2, z3, z4⟩ := HQ3.out w ((hSw.block _ (Array.getElem?_eq_some_iff.1 HGP.out.1).1).trans HGP.out.1)
                            go_simp
                            first | done | with_reducible rfl
                          simp only [List.getElem_toArray, List.getElem_cons_zero, List.getElem_cons_succ, Act.put, List.setIfInBounds_toArray, List.set_cons_zero, List.set_cons_succ]
                          refine wpAnyH_take (i := 21) (v := ?_) rfl (by kernel_rfl) (by kernel_rfl) (by kernel_rfl) (fun _ _ _ h => h) (Or.inl ⟨by kernel_rfl, ?_⟩) (by assumption) ?_
                          rotate_left
                          · intro w hSw
                            (try dsimp only at hSw)
                            go_simp
                            first | done | with_reducible rfl
                          simp only [List.getElem_toArray, List.getElem_cons_zero, List.getElem_cons_succ, Act.put, List.setIfInBounds_toArray, List.set_cons_zero, List.set_cons_succ]
                          refine wpAnyH_take (i := 22) (v := ?_) rfl (by kernel_rfl) (by kernel_rfl) (by kernel_rfl) (fun _ _ _ h => h) (Or.inl ⟨by kernel_rfl, ?_⟩) (by assumption) ?_
                          rotate_left
                          · intro w hSw
                            (try dsimp only at hSw)
                            go_simp
                            first | done | with_reducible rfl
                          simp only [List.getElem_toArray, List.getElem_cons_zero, List.getElem_cons_succ, Act.put, List.setIfInBounds_toArray, List.set_cons_zero, List.set_cons_succ]
                          refine wpAnyH_take (i := 23) (v := ?_) rfl (by kernel_rfl) (by kernel_rfl) (by kernel_rfl) (fun _ _ _ h => h) (Or.inl ⟨by kernel_rfl, ?_⟩) (by assumption) ?_
                          rotate_left
                          · intro w hSw
                            (try dsimp only at hSw)
                            go_simp
                            first | done | with_reducible rfl
                          simp only [List.getElem_toArray, List.getElem_cons_zero, List.getElem_cons_succ, Act.put, List.setIfInBounds_toArray, List.set_cons_zero, List.set_cons_succ]
                          refine wpAnyH_take (i := 24) (v := ?_) rfl (by kernel_rfl) (by kernel_rfl) (by kernel_rfl) (fun _ _ _ h => h) (Or.inl ⟨by kernel_rfl, ?_⟩) (by assumption) ?_
                          rotate_left
                          · intro w hSw
                            (try dsimp only at hSw)
                            obtain ⟨z0, z1, z2, z3, z4⟩ := HQ3.out w ((hSw.block _ (Array.getElem?_eq_some_iff.1 HGP.out.1).1).trans HGP.out.1)
                            go_simp
                            first | done | with_reducible rfl
                          simp only [List.getElem_toArray, List.getElem_cons_zero, List.getElem_cons_succ, Act.put, List.setIfInBounds_toArray, List.set_cons_zero, List.set_cons_succ]
                          exact h_3_5_10_12 Un hHeldn
                        exact AllReadyH.nil
                    case h2 =>
                      intro U hF
                      have hHeld := hF
                      refine wpAnyH_ready (rs := [20]) (by kernel_rfl) (by simp) ?_
                      refine AllReadyH.cons rfl (fun K hK => ?_) ?_
                      · simp only [List.getElem_toArray, List.getElem_cons_zero, List.getElem_cons_succ]
                        go_simp
                        (with_reducible refine (leafP_at sa month pp tl Htl hmI hl1 hl2 U (HTb.out.go (bgo HBe7.out hHeld))).mono ?_)
                        rintro e Un ⟨rfl, hBn⟩
                        dsimp only
                        refine hK.out _ _ (bgo hHeld hBn) (fun hHeldn => ?_)
                        clear hK K
                        try simp only [List.getElem_toArray, List.getElem_cons_zero, List.getElem_cons_succ, Act.put, List.setIfInBounds_toArray, List.set_cons_zero, List.set_cons_succ]
                        exact h_3_5_10_12_20 Un hHeldn
                      exact AllReadyH.nil
                  case h2 =>
                    intro U hF
                    have hHeld := hF
                    refine wpAnyH_ready (rs := [25]) (by kernel_rfl) (by simp) ?_
                    refine AllReadyH.cons rfl (fun K hK => ?_) ?_
                    · simp only [List.getElem_toArray, List.getElem_cons_zero, List.getElem_cons_succ]
                      go_simp
                      (with_reducible refine (rleafP_any sa month pp tl Htl hmJ hl1 hl2 U).mono ?_)
                      rintro e Un ⟨rfl, hBn⟩
                      dsimp only
                      refine hK.out _ _ (bgo hHeld hBn) (fun hHeldn => ?_)
                      clear hK K
                      try simp only [List.getElem_toArray, List.getElem_cons_zero, List.getElem_cons_succ, Act.put, List.setIfInBounds_toArray, List.set_cons_zero, List.set_cons_succ]
                      refine wpAnyH_take (i := 26) (v := .bool true) rfl (by kernel_rfl) (by kernel_rfl) (by kernel_rfl) (fun _ _ _ h => h) (Or.inl ⟨by kernel_rfl, ?_⟩) (by assumption) ?_
                      · intro w hSw
                        (try dsimp only at hSw)
                        go_simp
                        first | done | with_reducible rfl
                      simp only [List.getElem_toArray, List.getElem_cons_zero, List.getElem_cons_succ, Act.put, List.setIfInBounds_toArray, List.set_cons_zero, List.set_cons_succ]
                      refine wpAnyH_take (i := 27) (v := .bool true) rfl (by kernel_rfl) (by kernel_rfl) (by kernel_rfl) (fun _ _ _ h => h) (Or.inl ⟨by kernel_rfl, ?_⟩) (by assumption) ?_
                      · intro w hSw
                        (try dsimp only at hSw)
                        go_simp
                        first | done | with_reducible rfl
                      simp only [List.getElem_toArray, List.getElem_cons_zero, List.getElem_cons_succ, Act.put, List.setIfInBounds_toArray, List.set_cons_zero, List.set_cons_succ]
                      refine wpAnyH_take (i := 28) (v := ?_) rfl (by kernel_rfl) (by kernel_rfl) (by kernel_rfl) (fun _ _ _ h => h) (Or.inl ⟨by kernel_rfl, ?_⟩) (by assumption) ?_
                      rotate_left
                      · intro w hSw
                        (try dsimp only at hSw)
                        go_simp
                        first | done | with_reducible rfl
                      simp only [List.getElem_toArray, List.getElem_cons_zero, List.getElem_cons_succ, Act.put, List.setIfInBounds_toArray, List.set_cons_zero, List.set_cons_succ]
                      exact h_3_5_10_12_20_25 Un hHeldn
                    exact AllReadyH.nil
                case h2 =>
                  intro U hF
                  have hHeld := hF
                  refine wpAnyH_done (by kernel_rfl) ?_ _
                  dsimp only [NoPanic]
                  have hbe := bgo HBe7.out hHeld
                  clear hHeld
                  go_wp2_with fail
                  go_ret
                  exact ⟨rfl, hbe⟩
end Go.Proofs.YtfjkmhbipkoefaaDoor
