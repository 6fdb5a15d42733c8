/- The walk of DiscloseMatchesReference. -/
import Derived.Test.YtfjkmhbipkoefaaGreatDoorQ35
namespace Go.Proofs.YtfjkmhbipkoefaaGreatDoor
open Go.RowKit Go.Shelf
set_option linter.unusedVariables false
set_option linter.unusedSimpArgs false
set_option maxRecDepth 100000
theorem pathL_len_a (ss : List ByteArray) (i : Int) : (pathL ss i).length ≤ 10 := by
  unfold pathL
  by_cases h : pathE ss.length i = 0
  · rw [if_pos h]
    unfold pathE at h
    by_cases h1 : checkE ss.length = 0
    · rw [if_pos h1] at h
      by_cases h2 : 0 ≤ i ∧ i < ss.length
      · have h3 : ss.length ≤ 1024 := by
          unfold checkE at h1
          split at h1
          · cases h1
          · split at h1
            · cases h1
            · omega
        have h4 := pathL_len ss i.toNat h3 (by omega)
        rw [pathL_ok ss i.toNat h3 (by omega)] at h4
        exact h4
      · rw [if_neg h2] at h; cases h
    · rw [if_neg h1] at h; exact absurd h h1
  · rw [if_neg h]; exact Nat.zero_le _
/-- Same on the two results. -/
theorem rsame_show (person : ByteArray) (month : Int) (root : UInt64) (rows : List RowD) (bl sel : List Int) (seed : ByteArray) (h i er : Int) (f g : DF) (com com' : List Int) (ms ms' : List ShM) (ch ch' : List UInt64) (p p' : Forks) (b b' : Nat) (w : World)
    (f0 : er ≠ 0 → f = DF.none) (g0 : er ≠ 0 → g = DF.none)
    (f1 : er = 0 → IsShow person month root rows bl rows.length sel seed (2 ^ h.toNat) i.toNat f com ms ch p ∧ DRows w b f com ms ch p)
    (g1 : er = 0 → IsShow person month root rows bl rows.length sel seed (2 ^ h.toNat) i.toNat g com' ms' ch' p' ∧ DRows w b' g com' ms' ch' p') (hr : rows.length ≤ 24) (hs : sel.length ≤ 40) :
    Calls Tryz.prog 8 #[.agg f.cells, .agg g.cells] w fun e w' => e = .returned (.bool true) ∧ Below w.heap.size w w' := by
  by_cases he : er = 0
  · obtain ⟨F, fr⟩ := f1 he
    obtain ⟨G, gr⟩ := g1 he
    obtain ⟨F1, F2, F3, F4, F5, F6, F7, F8, F9, F10, F11, F12, F13, F14⟩ := F
    obtain ⟨G1, G2, G3, G4, G5, G6, G7, G8, G9, G10, G11, G12, G13, G14⟩ := G
    have hms : ms.map ShM.key = ms'.map ShM.key := by rw [F6, G6]
    have hml : ms.length = sel.length := by have := congrArg List.length F6; simpa using this
    have hml' : ms'.length = sel.length := by have := congrArg List.length G6; simpa using this
    have hpl : ∀ x ∈ ms, x.p.length ≤ 1024 := by
      intro x hx
      have h1 : x.key ∈ sel.map (shkAt rows bl rows.length) := by rw [← F6]; exact List.mem_map.2 ⟨x, hx, rfl⟩
      obtain ⟨y, _, e⟩ := List.mem_map.1 h1
      have h2 : x.p = pathL (leafK rows bl rows.length) y := by
        have := congrArg ShK.p e
        exact this.symm
      rw [h2]
      exact Nat.le_trans (pathL_len_a _ _) (by decide)
    obtain ⟨CM, hCM⟩ : ∃ x, comL rows bl rows.length = x := ⟨_, rfl⟩
    obtain ⟨CH, hCH⟩ : ∃ x, On.chains seed.data.toList ((i.toNat : Nat) : Int) (Dig.sum (dText person month root (comL rows bl rows.length)).data.toList) 18 = x := ⟨_, rfl⟩
    obtain ⟨P, hP⟩ : ∃ x, pathL (leavesB seed (2 ^ h.toNat)) ((i.toNat : Nat) : Int) = x := ⟨_, rfl⟩
    have hCMl : CM.length = rows.length := by rw [← hCM]; exact comL_len _ _ _
    have hCHl : CH.length = 18 := by rw [← hCH]; exact On.chains_len _ _ _ _
    have hPl : P.length ≤ 10 := by rw [← hP]; exact pathL_len_a _ _
    rw [hCH] at F11 G11
    rw [hP] at F12 G12
    rw [hCM] at F4 G4
    obtain ⟨H1, hH1⟩ : ∃ x, sumH (rows.map (·.c)) (hidL sel rows.length) rows.length = x := ⟨_, rfl⟩
    obtain ⟨H2, hH2⟩ : ∃ x, sumH bl (hidL sel rows.length) rows.length % 1073741789 = x := ⟨_, rfl⟩
    obtain ⟨I0, hI0⟩ : ∃ x : Int, ((i.toNat : Nat) : Int) = x := ⟨_, rfl⟩
    rw [hH1] at F8 G8
    rw [hH2] at F9 G9
    rw [hI0] at F10 G10
    clear hCH hP hCM hH1 hH2 hI0 F6 G6
    subst F4 F11 F12 G4 G11 G12
    obtain ⟨ap, am, ar, aC, anc, acc, aS, ans, acs, ahid, abld, asi, aSA, ana, aca, aSB, anb, acb⟩ := f
    obtain ⟨bp, bm, br, bC, bnc, bcc, bS, bns, bcs, bhid, bbld, bsi, bSA, bna, bca, bSB, bnb, bcb⟩ := g
    dsimp only at F1 F2 F3 F5 F7 F8 F9 F10 F13 F14 G1 G2 G3 G5 G7 G8 G9 G10 G13 G14
    subst F1 F2 F3 F5 F7 F8 F9 F10 F13 F14 G1 G2 G3 G5 G7 G8 G9 G10 G13 G14
    exact rsame36_any _ _ _ _ _ _ _ _ _ _ _ _ _ _ _ _ _ _ _ _ _ _ _ _ _ _ _ ms ms' _ _ hCMl hml hml' hCHl rfl (by omega) (by omega) (by decide) (by omega) hms hpl w
      (own_sl fr.c) (own_sl gr.c) (own_sl fr.s) (own_sl gr.s) (fun x hx => own_sl (fr.sp x hx)) (fun x hx => own_sl (gr.sp x hx)) (own_sl fr.sa) (own_sl gr.sa) (own_sl fr.sb) (own_sl gr.sb)
  · obtain rfl := f0 he
    obtain rfl := g0 he
    exact rsame36_any ⟨#[]⟩ 0 0 none none none none none none none none 0 0 0 0 0 0 0 0 0 0 0 0 0 0 0 [] [] [] [] [] rfl rfl rfl rfl rfl (by decide) (by decide) (by decide) (by decide) rfl (fun x hx => by cases hx) w
      (Sl.nil _ _) (Sl.nil _ _) (Sl.nil _ _) (Sl.nil _ _) (fun x hx => by cases hx) (fun x hx => by cases hx) (Sl.nil _ _) (Sl.nil _ _) (Sl.nil _ _) (Sl.nil _ _)
set_option maxHeartbeats 8000000 in
theorem discloseMatchesReference_walk (q : ShtM) (E : Option Addr) (ce : Nat) (sel : List Int) (seed : ByteArray) (h i : Int) (w : World) (hS : ShtOk w q) (hE : Sl w w.heap.size 1 E sel.length (intV sel)) (hle : sel.length ≤ ce ∧ ce ≤ maxLen) (hse : ∀ x ∈ sel, I64 x) (hsd : seed.size ≤ maxLen) (wh : (Lit.int .i64 h).wf = true) (wi : (Lit.int .i64 i).wf = true) (hT : Tabs w) :
    Calls Tryz.prog 3 #[shtV q, .slice E sel.length ce, .string seed, .int .i64 h, .int .i64 i] w fun e w' => e = .returned (.bool true) ∧ Below w.heap.size w w' := by
  obtain ⟨person, month, A, ca, rows, B, cb, bl, root⟩ := q
  obtain ⟨hp, hm, hA, hB, hla, hlb, hrs, hbs⟩ := hS
  dsimp only at hp hm hA hB hla hlb hrs hbs
  obtain ⟨n, hn⟩ : ∃ n, rows.length = n := ⟨_, rfl⟩
  obtain ⟨m, hm'⟩ : ∃ n, bl.length = n := ⟨_, rfl⟩
  obtain ⟨ns, hns⟩ : ∃ n, sel.length = n := ⟨_, rfl⟩
  rw [hn] at hA hla
  rw [hm'] at hB hlb
  rw [hns] at hE hle
  show Calls _ _ #[.agg #[.string person, .int .i64 month, .slice A rows.length ca, .slice B bl.length cb, .int .u64 root.toNat], .slice E sel.length ce, .string seed, .int .i64 h, .int .i64 i] _ _
  rw [hn, hm', hns]
  obtain ⟨e1, he1⟩ : ∃ e, showE person month root rows bl sel seed h i = e := ⟨_, rfl⟩
  obtain ⟨v, hv⟩ : ∃ v, lightB person n m rows ns seed h = v := ⟨_, rfl⟩
  have Hv := Lib.hid hv
  have He1 := Lib.hid he1
  have HA := Lib.hid hA
  have HB := Lib.hid hB
  have HE := Lib.hid hE
  have Hn := Lib.hid (And.intro hn (And.intro hm' hns))
  have HT := Lib.hid hT
  have Hrs := Lib.hid hrs
  have Hbs := Lib.hid hbs
  have Hml : Hid (n ≤ maxLen ∧ m ≤ maxLen ∧ ns ≤ maxLen) := Lib.hid ⟨by omega, by omega, by omega⟩
  have HmI := Lib.hid hm
  clear hA hB hn hm' he1 hv hT hrs hbs hla hlb wh wi hE hle hse hns hm
  go_enter Tryz.func3, Tryz.ntmps3
  go_wp2_with fail
  have hJ := BoxAt.start w #[.string person, .int .i64 month, .slice A n ca, .slice B m cb, .int .u64 root.toNat]
  obtain ⟨V, hV⟩ : ∃ Q : World, Q = w.alloc (.cells #[.string person, .int .i64 month, .slice A n ca, .slice B m cb, .int .u64 root.toNat] 27) := ⟨_, rfl⟩
  rw [← hV] at hJ ⊢
  clear hV
  refine (head36_any V (HT.out.go hJ.be)).mono ?_
  rintro e w1 ⟨rfl, hB1⟩
  have hJ1 := hJ.go hB1
  have k0 : w1.cell? ⟨w.heap.size, 0, none⟩ = some (.string person) := by rw [Lib.cell_of_heap hJ1.b]; rfl
  have k1 : w1.cell? ⟨w.heap.size, 1, none⟩ = some (.int .i64 month) := by rw [Lib.cell_of_heap hJ1.b]; rfl
  have k2 : w1.cell? ⟨w.heap.size, 2, none⟩ = some (.slice A n ca) := by rw [Lib.cell_of_heap hJ1.b]; rfl
  have k3 : w1.cell? ⟨w.heap.size, 3, none⟩ = some (.slice B m cb) := by rw [Lib.cell_of_heap hJ1.b]; rfl
  have k4 : w1.cell? ⟨w.heap.size, 4, none⟩ = some (.int .u64 root.toNat) := by rw [Lib.cell_of_heap hJ1.b]; rfl
  have HJ1 := Lib.hid hJ1
  have hA1 := HA.out.go hJ1.be
  have HA1 := Lib.hid hA1
  clear hB1 hJ hJ1 hA1
  clear V
  go_wp2_with fail
  refine (light36_any person month root A B E ca cb ce n m ns rows seed h v Hn.out.1 Hv Hml.out.1 Hml.out.2.1 Hml.out.2.2 hp hsd w1 HA1.out (fun x hx => ⟨(Hrs.out x hx).1, (Hrs.out x hx).2.1⟩)).mono ?_
  rintro e w2 ⟨rfl, hB2⟩
  have hJ2 := HJ1.out.go hB2
  have HJ2 := Lib.hid hJ2
  clear k0 k1 k2 k3 k4 hB2 hJ2 HJ1 HA1
  clear w1
  cases v with
  | false =>
    have hbe := HJ2.out.be
    go_wp2_with fail
    go_ret
    exact ⟨rfl, hbe⟩
  | true =>
    have hl := Hv.out
    unfold lightB smallB at hl
    simp only [Bool.and_eq_true, decide_eq_true_eq] at hl
    obtain ⟨⟨⟨hn24, hm33, hp40⟩, hall⟩, hns40, hsd80, _⟩ := hl
    have hRs : Hid (∀ x ∈ rows, x.l.size ≤ 70368744177000 ∧ x.r.size ≤ 70368744177000 ∧ I64 x.c) := Lib.hid (fun x hx => by
      have h1 := of_decide_eq_true (List.all_eq_true.1 hall x hx)
      exact ⟨by omega, by omega, (Hrs.out x hx).2.2⟩)
    clear hall
    have k0 : w2.cell? ⟨w.heap.size, 0, none⟩ = some (.string person) := by rw [Lib.cell_of_heap HJ2.out.b]; rfl
    have k1 : w2.cell? ⟨w.heap.size, 1, none⟩ = some (.int .i64 month) := by rw [Lib.cell_of_heap HJ2.out.b]; rfl
    have k2 : w2.cell? ⟨w.heap.size, 2, none⟩ = some (.slice A n ca) := by rw [Lib.cell_of_heap HJ2.out.b]; rfl
    have k3 : w2.cell? ⟨w.heap.size, 3, none⟩ = some (.slice B m cb) := by rw [Lib.cell_of_heap HJ2.out.b]; rfl
    have k4 : w2.cell? ⟨w.heap.size, 4, none⟩ = some (.int .u64 root.toNat) := by rw [Lib.cell_of_heap HJ2.out.b]; rfl
    go_wp2_with fail
    refine (show_any person month root A B E ca cb ce n m ns rows bl sel seed h i e1 He1 w2 (HT.out.go HJ2.out.be) (HA.out.go HJ2.out.be) (HB.out.go HJ2.out.be) (HE.out.go HJ2.out.be) Hn.out.1 Hn.out.2.1 Hn.out.2.2 Hml.out.1 Hml.out.2.1 (by omega) hp hRs.out Hbs.out hsd).mono ?_
    rintro e w5 ⟨⟨ap, am, ar, aC, anc, acc, aS, ans, acs, ahid, abld, asi, aSA, ana, aca, aSB, anb, acb⟩, com, ms, ch, p, rfl, hf0, hok, hC5⟩
    have hJ5 := HJ2.out.go hC5
    have HF : Hid ((e1 ≠ 0 → ⟨ap, am, ar, aC, anc, acc, aS, ans, acs, ahid, abld, asi, aSA, ana, aca, aSB, anb, acb⟩ = DF.none) ∧ (e1 = 0 → IsShow person month root rows bl rows.length sel seed (2 ^ h.toNat) i.toNat ⟨ap, am, ar, aC, anc, acc, aS, ans, acs, ahid, abld, asi, aSA, ana, aca, aSB, anb, acb⟩ com ms ch p ∧ DRows w5 w2.heap.size ⟨ap, am, ar, aC, anc, acc, aS, ans, acs, ahid, abld, asi, aSA, ana, aca, aSB, anb, acb⟩ com ms ch p)) := Lib.hid ⟨hf0, hok⟩
    clear hf0 hok hC5 HJ2 k0 k1 k2 k3 k4
    dsimp only [DF.cells]
    go_upto_region 5 with fail
    obtain ⟨w6, hw6⟩ : ∃ Q : World, Q = w5.alloc (.cells #[.string ap, .int .i64 am, .int .u64 ar.toNat, .slice aC anc acc, .slice aS ans acs, .int .i64 ahid, .int .i64 abld, .int .i64 asi, .slice aSA ana aca, .slice aSB anb acb] 36) := ⟨_, rfl⟩
    have hJ6 : BoxAt w #[.string person, .int .i64 month, .slice A n ca, .slice B m cb, .int .u64 root.toNat] w6 := by rw [hw6]; exact hJ5.go (bal (Below.refl _ _) _)
    have gD : w6.heap[w5.heap.size]? = some (.cells #[.string ap, .int .i64 am, .int .u64 ar.toNat, .slice aC anc acc, .slice aS ans acs, .int .i64 ahid, .int .i64 abld, .int .i64 asi, .slice aSA ana aca, .slice aSB anb acb] 36 (0, 0)) := by rw [hw6]; exact World.alloc_heap_new _ _
    have hB56 : Below w5.heap.size w5 w6 := by rw [hw6]; exact bal (Below.refl _ _) _
    rw [← hw6]
    obtain ⟨T, hT'⟩ : ∃ T, T = w5.heap.size := ⟨_, rfl⟩
    rw [← hT'] at gD ⊢
    have HF6 : Hid ((e1 ≠ 0 → ⟨ap, am, ar, aC, anc, acc, aS, ans, acs, ahid, abld, asi, aSA, ana, aca, aSB, anb, acb⟩ = DF.none) ∧ (e1 = 0 → IsShow person month root rows bl rows.length sel seed (2 ^ h.toNat) i.toNat ⟨ap, am, ar, aC, anc, acc, aS, ans, acs, ahid, abld, asi, aSA, ana, aca, aSB, anb, acb⟩ com ms ch p ∧ DRows w6 w2.heap.size ⟨ap, am, ar, aC, anc, acc, aS, ans, acs, ahid, abld, asi, aSA, ana, aca, aSB, anb, acb⟩ com ms ch p)) := Lib.hid ⟨HF.out.1, fun h0 => ⟨(HF.out.2 h0).1, (HF.out.2 h0).2.go hB56⟩⟩
    have HJ6 := Lib.hid hJ6
    have GD := Lib.hid gD
    have k0 : w6.cell? ⟨w.heap.size, 0, none⟩ = some (.string person) := by rw [Lib.cell_of_heap HJ6.out.b]; rfl
    have k1 : w6.cell? ⟨w.heap.size, 1, none⟩ = some (.int .i64 month) := by rw [Lib.cell_of_heap HJ6.out.b]; rfl
    have k2 : w6.cell? ⟨w.heap.size, 2, none⟩ = some (.slice A n ca) := by rw [Lib.cell_of_heap HJ6.out.b]; rfl
    have k3 : w6.cell? ⟨w.heap.size, 3, none⟩ = some (.slice B m cb) := by rw [Lib.cell_of_heap HJ6.out.b]; rfl
    have k4 : w6.cell? ⟨w.heap.size, 4, none⟩ = some (.int .u64 root.toNat) := by rw [Lib.cell_of_heap HJ6.out.b]; rfl
    clear hJ6 gD hw6 hT' hJ5 hB56 HF
    clear w5
    go_wp2_with fail
    refine (rshow_any person month root A B E ca cb ce n m ns rows bl sel seed h i e1 He1 w6 (HT.out.go HJ6.out.be) (HA.out.go HJ6.out.be) (HB.out.go HJ6.out.be) (HE.out.go HJ6.out.be) Hn.out.1 Hn.out.2.1 Hn.out.2.2 Hml.out.1 Hml.out.2.1 Hml.out.2.2 hp hRs.out Hbs.out hsd).mono ?_
    rintro e w7 ⟨⟨bp, bm, br, bC, bnc, bcc, bS, bns, bcs, bhid, bbld, bsi, bSA, bna, bca, bSB, bnb, bcb⟩, com', ms', ch', p', rfl, hg0, hok2, hC7⟩
    have hJ7 := HJ6.out.go hC7
    have gD7 := (hC7.block T (Array.getElem?_eq_some_iff.1 GD.out).1).trans GD.out
    have HF7 : Hid ((e1 ≠ 0 → ⟨ap, am, ar, aC, anc, acc, aS, ans, acs, ahid, abld, asi, aSA, ana, aca, aSB, anb, acb⟩ = DF.none) ∧ (e1 = 0 → IsShow person month root rows bl rows.length sel seed (2 ^ h.toNat) i.toNat ⟨ap, am, ar, aC, anc, acc, aS, ans, acs, ahid, abld, asi, aSA, ana, aca, aSB, anb, acb⟩ com ms ch p ∧ DRows w7 w2.heap.size ⟨ap, am, ar, aC, anc, acc, aS, ans, acs, ahid, abld, asi, aSA, ana, aca, aSB, anb, acb⟩ com ms ch p)) := Lib.hid ⟨HF6.out.1, fun h0 => ⟨(HF6.out.2 h0).1, (HF6.out.2 h0).2.go hC7⟩⟩
    have HG7 : Hid ((e1 ≠ 0 → ⟨bp, bm, br, bC, bnc, bcc, bS, bns, bcs, bhid, bbld, bsi, bSA, bna, bca, bSB, bnb, bcb⟩ = DF.none) ∧ (e1 = 0 → IsShow person month root rows bl rows.length sel seed (2 ^ h.toNat) i.toNat ⟨bp, bm, br, bC, bnc, bcc, bS, bns, bcs, bhid, bbld, bsi, bSA, bna, bca, bSB, bnb, bcb⟩ com' ms' ch' p' ∧ DRows w7 w6.heap.size ⟨bp, bm, br, bC, bnc, bcc, bS, bns, bcs, bhid, bbld, bsi, bSA, bna, bca, bSB, bnb, bcb⟩ com' ms' ch' p')) := Lib.hid ⟨hg0, hok2⟩
    clear hg0 hok2 hC7 GD HF6 HJ6 k0 k1 k2 k3 k4
    dsimp only [DF.cells]
    go_upto_region 6 with fail
    obtain ⟨w8, hw8⟩ : ∃ Q : World, Q = w7.alloc (.cells #[.string bp, .int .i64 bm, .int .u64 br.toNat, .slice bC bnc bcc, .slice bS bns bcs, .int .i64 bhid, .int .i64 bbld, .int .i64 bsi, .slice bSA bna bca, .slice bSB bnb bcb] 36) := ⟨_, rfl⟩
    have hB78 : Below w7.heap.size w7 w8 := by rw [hw8]; exact bal (Below.refl _ _) _
    have hJ8 : BoxAt w #[.string person, .int .i64 month, .slice A n ca, .slice B m cb, .int .u64 root.toNat] w8 := hJ7.go hB78
    have gT : w8.heap[T]? = some (.cells #[.string ap, .int .i64 am, .int .u64 ar.toNat, .slice aC anc acc, .slice aS ans acs, .int .i64 ahid, .int .i64 abld, .int .i64 asi, .slice aSA ana aca, .slice aSB anb acb] 36 (0, 0)) := (hB78.block T (Array.getElem?_eq_some_iff.1 gD7).1).trans gD7
    have gU : w8.heap[w7.heap.size]? = some (.cells #[.string bp, .int .i64 bm, .int .u64 br.toNat, .slice bC bnc bcc, .slice bS bns bcs, .int .i64 bhid, .int .i64 bbld, .int .i64 bsi, .slice bSA bna bca, .slice bSB bnb bcb] 36 (0, 0)) := by rw [hw8]; exact World.alloc_heap_new _ _
    rw [← hw8]
    obtain ⟨U, hU'⟩ : ∃ U, U = w7.heap.size := ⟨_, rfl⟩
    rw [← hU'] at gU ⊢
    have HSame : Hid (∀ W, Below w8.heap.size w8 W → Calls Tryz.prog 8 #[.agg #[.string ap, .int .i64 am, .int .u64 ar.toNat, .slice aC anc acc, .slice aS ans acs, .int .i64 ahid, .int .i64 abld, .int .i64 asi, .slice aSA ana aca, .slice aSB anb acb], .agg #[.string bp, .int .i64 bm, .int .u64 br.toNat, .slice bC bnc bcc, .slice bS bns bcs, .int .i64 bhid, .int .i64 bbld, .int .i64 bsi, .slice bSA bna bca, .slice bSB bnb bcb]] W fun e w' => e = .returned (.bool true) ∧ Below W.heap.size W w') := Lib.hid (fun W hW =>
      rsame_show person month root rows bl sel seed h i e1 ⟨ap, am, ar, aC, anc, acc, aS, ans, acs, ahid, abld, asi, aSA, ana, aca, aSB, anb, acb⟩ ⟨bp, bm, br, bC, bnc, bcc, bS, bns, bcs, bhid, bbld, bsi, bSA, bna, bca, bSB, bnb, bcb⟩ com com' ms ms' ch ch' p p' w2.heap.size w6.heap.size W HF7.out.1 HG7.out.1 (fun h0 => ⟨(HF7.out.2 h0).1, ((HF7.out.2 h0).2.go hB78).go hW⟩) (fun h0 => ⟨(HG7.out.2 h0).1, ((HG7.out.2 h0).2.go hB78).go hW⟩) (by rw [Hn.out.1]; exact hn24) (by rw [Hn.out.2.2]; exact hns40))
    obtain ⟨tx, htx⟩ : ∃ t, dText person month root bl = t := ⟨_, rfl⟩
    have Htx := Lib.hid htx
    have hS0 : ∀ W : World, W.heap[w.heap.size]? = some (.cells #[.string person, .int .i64 month, .slice A n ca, .slice B m cb, .int .u64 root.toNat] 27 (0, 0)) → W.cell? ⟨w.heap.size, 0, none⟩ = some (.string person) ∧ W.cell? ⟨w.heap.size, 1, none⟩ = some (.int .i64 month) ∧ W.cell? ⟨w.heap.size, 3, none⟩ = some (.slice B m cb) ∧ W.cell? ⟨w.heap.size, 4, none⟩ = some (.int .u64 root.toNat) := fun W hW => ⟨by rw [Lib.cell_of_heap hW]; rfl, by rw [Lib.cell_of_heap hW]; rfl, by rw [Lib.cell_of_heap hW]; rfl, by rw [Lib.cell_of_heap hW]; rfl⟩
    have HS0 := Lib.hid hS0
    have hSa : ∀ W : World, W.heap[T]? = some (.cells #[.string ap, .int .i64 am, .int .u64 ar.toNat, .slice aC anc acc, .slice aS ans acs, .int .i64 ahid, .int .i64 abld, .int .i64 asi, .slice aSA ana aca, .slice aSB anb acb] 36 (0, 0)) → W.cell? ⟨T, 0, none⟩ = some (.string ap) ∧ W.cell? ⟨T, 1, none⟩ = some (.int .i64 am) ∧ W.cell? ⟨T, 2, none⟩ = some (.int .u64 ar.toNat) ∧ W.cell? ⟨T, 3, none⟩ = some (.slice aC anc acc) ∧ W.cell? ⟨T, 4, none⟩ = some (.slice aS ans acs) ∧ W.cell? ⟨T, 5, none⟩ = some (.int .i64 ahid) ∧ W.cell? ⟨T, 6, none⟩ = some (.int .i64 abld) ∧ W.cell? ⟨T, 7, none⟩ = some (.int .i64 asi) ∧ W.cell? ⟨T, 8, none⟩ = some (.slice aSA ana aca) ∧ W.cell? ⟨T, 9, none⟩ = some (.slice aSB anb acb) := fun W hW => ⟨by rw [Lib.cell_of_heap hW]; rfl, by rw [Lib.cell_of_heap hW]; rfl, by rw [Lib.cell_of_heap hW]; rfl, by rw [Lib.cell_of_heap hW]; rfl, by rw [Lib.cell_of_heap hW]; rfl, by rw [Lib.cell_of_heap hW]; rfl, by rw [Lib.cell_of_heap hW]; rfl, by rw [Lib.cell_of_heap hW]; rfl, by rw [Lib.cell_of_heap hW]; rfl, by rw [Lib.cell_of_heap hW]; rfl⟩
    have HSa := Lib.hid hSa
    have hSb : ∀ W : World, W.heap[U]? = some (.cells #[.string bp, .int .i64 bm, .int .u64 br.toNat, .slice bC bnc bcc, .slice bS bns bcs, .int .i64 bhid, .int .i64 bbld, .int .i64 bsi, .slice bSA bna bca, .slice bSB bnb bcb] 36 (0, 0)) → W.cell? ⟨U, 0, none⟩ = some (.string bp) ∧ W.cell? ⟨U, 1, none⟩ = some (.int .i64 bm) ∧ W.cell? ⟨U, 2, none⟩ = some (.int .u64 br.toNat) ∧ W.cell? ⟨U, 3, none⟩ = some (.slice bC bnc bcc) ∧ W.cell? ⟨U, 4, none⟩ = some (.slice bS bns bcs) ∧ W.cell? ⟨U, 5, none⟩ = some (.int .i64 bhid) ∧ W.cell? ⟨U, 6, none⟩ = some (.int .i64 bbld) ∧ W.cell? ⟨U, 7, none⟩ = some (.int .i64 bsi) ∧ W.cell? ⟨U, 8, none⟩ = some (.slice bSA bna bca) ∧ W.cell? ⟨U, 9, none⟩ = some (.slice bSB bnb bcb) := fun W hW => ⟨by rw [Lib.cell_of_heap hW]; rfl, by rw [Lib.cell_of_heap hW]; rfl, by rw [Lib.cell_of_heap hW]; rfl, by rw [Lib.cell_of_heap hW]; rfl, by rw [Lib.cell_of_heap hW]; rfl, by rw [Lib.cell_of_heap hW]; rfl, by rw [Lib.cell_of_heap hW]; rfl, by rw [Lib.cell_of_heap hW]; rfl, by rw [Lib.cell_of_heap hW]; rfl, by rw [Lib.cell_of_heap hW]; rfl⟩
    have HSb := Lib.hid hSb
    have HH0 := Lib.hid (show (fun W : World => Below w.heap.size w W ∧ Below w8.heap.size w8 W ∧ W.heap[w.heap.size]? = some (.cells #[.string person, .int .i64 month, .slice A n ca, .slice B m cb, .int .u64 root.toNat] 27 (0, 0)) ∧ W.heap[T]? = some (.cells #[.string ap, .int .i64 am, .int .u64 ar.toNat, .slice aC anc acc, .slice aS ans acs, .int .i64 ahid, .int .i64 abld, .int .i64 asi, .slice aSA ana aca, .slice aSB anb acb] 36 (0, 0)) ∧ W.heap[U]? = some (.cells #[.string bp, .int .i64 bm, .int .u64 br.toNat, .slice bC bnc bcc, .slice bS bns bcs, .int .i64 bhid, .int .i64 bbld, .int .i64 bsi, .slice bSA bna bca, .slice bSB bnb bcb] 36 (0, 0))) w8.drew from ⟨hJ8.be.drew, (Below.refl _ _).drew, hJ8.b, gT, gU⟩)
    have HK : Hid (∀ W W' : World, (Below w.heap.size w W ∧ Below w8.heap.size w8 W ∧ W.heap[w.heap.size]? = some (.cells #[.string person, .int .i64 month, .slice A n ca, .slice B m cb, .int .u64 root.toNat] 27 (0, 0)) ∧ W.heap[T]? = some (.cells #[.string ap, .int .i64 am, .int .u64 ar.toNat, .slice aC anc acc, .slice aS ans acs, .int .i64 ahid, .int .i64 abld, .int .i64 asi, .slice aSA ana aca, .slice aSB anb acb] 36 (0, 0)) ∧ W.heap[U]? = some (.cells #[.string bp, .int .i64 bm, .int .u64 br.toNat, .slice bC bnc bcc, .slice bS bns bcs, .int .i64 bhid, .int .i64 bbld, .int .i64 bsi, .slice bSA bna bca, .slice bSB bnb bcb] 36 (0, 0))) → Below W.heap.size W W' → (Below w.heap.size w W' ∧ Below w8.heap.size w8 W' ∧ W'.heap[w.heap.size]? = some (.cells #[.string person, .int .i64 month, .slice A n ca, .slice B m cb, .int .u64 root.toNat] 27 (0, 0)) ∧ W'.heap[T]? = some (.cells #[.string ap, .int .i64 am, .int .u64 ar.toNat, .slice aC anc acc, .slice aS ans acs, .int .i64 ahid, .int .i64 abld, .int .i64 asi, .slice aSA ana aca, .slice aSB anb acb] 36 (0, 0)) ∧ W'.heap[U]? = some (.cells #[.string bp, .int .i64 bm, .int .u64 br.toNat, .slice bC bnc bcc, .slice bS bns bcs, .int .i64 bhid, .int .i64 bbld, .int .i64 bsi, .slice bSA bna bca, .slice bSB bnb bcb] 36 (0, 0)))) := Lib.hid (fun W W' hW hb => ⟨bgo hW.1 hb, bgo hW.2.1 hb, (hb.block _ (Array.getElem?_eq_some_iff.1 hW.2.2.1).1).trans hW.2.2.1, (hb.block _ (Array.getElem?_eq_some_iff.1 hW.2.2.2.1).1).trans hW.2.2.2.1, (hb.block _ (Array.getElem?_eq_some_iff.1 hW.2.2.2.2).1).trans hW.2.2.2.2⟩)
    clear hS0 hSa hSb hJ8 gT gU hw8 hU' hB78 hJ7 gD7 HF7 HG7 htx
    clear w7
    refine wp_region_noPanic ?_
    refine wp_region_held_drew (S := fun W => Below w.heap.size w W ∧ Below w8.heap.size w8 W ∧ W.heap[w.heap.size]? = some (.cells #[.string person, .int .i64 month, .slice A n ca, .slice B m cb, .int .u64 root.toNat] 27 (0, 0)) ∧ W.heap[T]? = some (.cells #[.string ap, .int .i64 am, .int .u64 ar.toNat, .slice aC anc acc, .slice aS ans acs, .int .i64 ahid, .int .i64 abld, .int .i64 asi, .slice aSA ana aca, .slice aSB anb acb] 36 (0, 0)) ∧ W.heap[U]? = some (.cells #[.string bp, .int .i64 bm, .int .u64 br.toNat, .slice bC bnc bcc, .slice bS bns bcs, .int .i64 bhid, .int .i64 bbld, .int .i64 bsi, .slice bSA bna bca, .slice bSB bnb bcb] 36 (0, 0))) (by kernel_rfl) HH0.out (fun hHeld => ?_)
    try simp only [List.append_eq, List.cons_append, List.nil_append]
    refine wpAnyH_take (i := 0) (v := ?_) rfl (by kernel_rfl) (by kernel_rfl) (by kernel_rfl) (fun _ _ _ h => h) (Or.inl ⟨by kernel_rfl, ?_⟩) (by assumption) ?_
    rotate_left
    · intro w hSw
      (try dsimp only at hSw)
      go_simp
      first | done | with_reducible rfl
    simp only [List.getElem_toArray, List.getElem_cons_zero, List.getElem_cons_succ, Act.put, List.setIfInBounds_toArray, List.set_cons_zero, List.set_cons_succ]
    refine wpAnyH_take (i := 1) (v := ?_) rfl (by kernel_rfl) (by kernel_rfl) (by kernel_rfl) (fun _ _ _ h => h) (Or.inl ⟨by kernel_rfl, ?_⟩) (by assumption) ?_
    rotate_left
    · intro w hSw
      (try dsimp only at hSw)
      go_simp
      first | done | with_reducible rfl
    simp only [List.getElem_toArray, List.getElem_cons_zero, List.getElem_cons_succ, Act.put, List.setIfInBounds_toArray, List.set_cons_zero, List.set_cons_succ]
    refine wpAnyH_take (i := 2) (v := ?_) rfl (by kernel_rfl) (by kernel_rfl) (by kernel_rfl) (fun _ _ _ h => h) (Or.inl ⟨by kernel_rfl, ?_⟩) (by assumption) ?_
    rotate_left
    · intro w hSw
      (try dsimp only at hSw)
      go_simp
      first | done | with_reducible rfl
    simp only [List.getElem_toArray, List.getElem_cons_zero, List.getElem_cons_succ, Act.put, List.setIfInBounds_toArray, List.set_cons_zero, List.set_cons_succ]
    refine wpAnyH_take (i := 3) (v := ?_) rfl (by kernel_rfl) (by kernel_rfl) (by kernel_rfl) (fun _ _ _ h => h) (Or.inl ⟨by kernel_rfl, ?_⟩) (by assumption) ?_
    rotate_left
    · intro w hSw
      (try dsimp only at hSw)
      go_simp
      first | done | with_reducible rfl
    simp only [List.getElem_toArray, List.getElem_cons_zero, List.getElem_cons_succ, Act.put, List.setIfInBounds_toArray, List.set_cons_zero, List.set_cons_succ]
    refine wpAnyH_take (i := 4) (v := .bool true) rfl (by kernel_rfl) (by kernel_rfl) (by kernel_rfl) (fun _ _ _ h => h) (Or.inl ⟨by kernel_rfl, ?_⟩) (by assumption) ?_
    · intro w hSw
      (try dsimp only at hSw)
      go_simp
      first | done | with_reducible rfl
    simp only [List.getElem_toArray, List.getElem_cons_zero, List.getElem_cons_succ, Act.put, List.setIfInBounds_toArray, List.set_cons_zero, List.set_cons_succ]
    refine wpAnyH_take (i := 5) (v := ?_) rfl (by kernel_rfl) (by kernel_rfl) (by kernel_rfl) (fun _ _ _ h => h) (Or.inl ⟨by kernel_rfl, ?_⟩) (by assumption) ?_
    rotate_left
    · intro w hSw
      (try dsimp only at hSw)
      go_simp
      first | done | with_reducible rfl
    simp only [List.getElem_toArray, List.getElem_cons_zero, List.getElem_cons_succ, Act.put, List.setIfInBounds_toArray, List.set_cons_zero, List.set_cons_succ]
    refine wpAnyH_take (i := 6) (v := ?_) rfl (by kernel_rfl) (by kernel_rfl) (by kernel_rfl) (fun _ _ _ h => h) (Or.inl ⟨by kernel_rfl, ?_⟩) (by assumption) ?_
    rotate_left
    · intro w hSw
      (try dsimp only at hSw)
      go_simp
      first | done | with_reducible rfl
    simp only [List.getElem_toArray, List.getElem_cons_zero, List.getElem_cons_succ, Act.put, List.setIfInBounds_toArray, List.set_cons_zero, List.set_cons_succ]
    refine wpAnyH_take (i := 7) (v := ?_) rfl (by kernel_rfl) (by kernel_rfl) (by kernel_rfl) (fun _ _ _ h => h) (Or.inl ⟨by kernel_rfl, ?_⟩) (by assumption) ?_
    rotate_left
    · intro w hSw
      (try dsimp only at hSw)
      obtain ⟨z0, z1, z2, z3, z4, z5, z6, z7, z8, z9⟩ := HSa.out w hSw.2.2.2.1
      go_simp
      first | done | with_reducible rfl
    simp only [List.getElem_toArray, List.getElem_cons_zero, List.getElem_cons_succ, Act.put, List.setIfInBounds_toArray, List.set_cons_zero, List.set_cons_succ]
    refine wpAnyH_take (i := 8) (v := ?_) rfl (by kernel_rfl) (by kernel_rfl) (by kernel_rfl) (fun _ _ _ h => h) (Or.inl ⟨by kernel_rfl, ?_⟩) (by assumption) ?_
    rotate_left
    · intro w hSw
      (try dsimp only at hSw)
      obtain ⟨z0, z1, z2, z3, z4, z5, z6, z7, z8, z9⟩ := HSb.out w hSw.2.2.2.2
      go_simp
      first | done | with_reducible rfl
    simp only [List.getElem_toArray, List.getElem_cons_zero, List.getElem_cons_succ, Act.put, List.setIfInBounds_toArray, List.set_cons_zero, List.set_cons_succ]
    refine wpAnyH_ready (rs := [9]) (by kernel_rfl) (by simp) ?_
    refine AllReadyH.cons rfl (fun K hK => ?_) ?_
    · simp only [List.getElem_toArray, List.getElem_cons_zero, List.getElem_cons_succ]
      go_simp
      (with_reducible refine (HSame.out w8.drew HH0.out.2.1).mono ?_)
      rintro e u9 ⟨rfl, hB9⟩
      dsimp only
      have HH9 := Lib.hid (HK.out w8.drew u9 HH0.out hB9)
      refine hK.out _ _ HH9.out (fun hHeld => ?_)
      clear hK K
      try simp only [List.getElem_toArray, List.getElem_cons_zero, List.getElem_cons_succ, Act.put, List.setIfInBounds_toArray, List.set_cons_zero, List.set_cons_succ]
      refine wpAnyH_take (i := 10) (v := ?_) rfl (by kernel_rfl) (by kernel_rfl) (by kernel_rfl) (fun _ _ _ h => h) (Or.inl ⟨by kernel_rfl, ?_⟩) (by assumption) ?_
      rotate_left
      · intro w hSw
        (try dsimp only at hSw)
        go_simp
        first | done | with_reducible rfl
      simp only [List.getElem_toArray, List.getElem_cons_zero, List.getElem_cons_succ, Act.put, List.setIfInBounds_toArray, List.set_cons_zero, List.set_cons_succ]
      refine wpAnyH_take (i := 11) (v := ?_) rfl (by kernel_rfl) (by kernel_rfl) (by kernel_rfl) (fun _ _ _ h => h) (Or.inl ⟨by kernel_rfl, ?_⟩) (by assumption) ?_
      rotate_left
      · intro w hSw
        (try dsimp only at hSw)
        go_simp
        first | done | with_reducible rfl
      simp only [List.getElem_toArray, List.getElem_cons_zero, List.getElem_cons_succ, Act.put, List.setIfInBounds_toArray, List.set_cons_zero, List.set_cons_succ]
      refine wpAnyH_take (i := 12) (v := ?_) rfl (by kernel_rfl) (by kernel_rfl) (by kernel_rfl) (fun _ _ _ h => h) (Or.inl ⟨by kernel_rfl, ?_⟩) (by assumption) ?_
      rotate_left
      · intro w hSw
        (try dsimp only at hSw)
        go_simp
        first | done | with_reducible rfl
      simp only [List.getElem_toArray, List.getElem_cons_zero, List.getElem_cons_succ, Act.put, List.setIfInBounds_toArray, List.set_cons_zero, List.set_cons_succ]
      refine wpAnyH_take (i := 13) (v := ?_) rfl (by kernel_rfl) (by kernel_rfl) (by kernel_rfl) (fun _ _ _ h => h) (Or.inl ⟨by kernel_rfl, ?_⟩) (by assumption) ?_
      rotate_left
      · intro w hSw
        (try dsimp only at hSw)
        obtain ⟨z0, z1, z3, z4⟩ := HS0.out w hSw.2.2.1
        go_simp
        first | done | with_reducible rfl
      simp only [List.getElem_toArray, List.getElem_cons_zero, List.getElem_cons_succ, Act.put, List.setIfInBounds_toArray, List.set_cons_zero, List.set_cons_succ]
      refine wpAnyH_take (i := 14) (v := ?_) rfl (by kernel_rfl) (by kernel_rfl) (by kernel_rfl) (fun _ _ _ h => h) (Or.inl ⟨by kernel_rfl, ?_⟩) (by assumption) ?_
      rotate_left
      · intro w hSw
        (try dsimp only at hSw)
        go_simp
        first | done | with_reducible rfl
      simp only [List.getElem_toArray, List.getElem_cons_zero, List.getElem_cons_succ, Act.put, List.setIfInBounds_toArray, List.set_cons_zero, List.set_cons_succ]
      refine wpAnyH_take (i := 15) (v := ?_) rfl (by kernel_rfl) (by kernel_rfl) (by kernel_rfl) (fun _ _ _ h => h) (Or.inl ⟨by kernel_rfl, ?_⟩) (by assumption) ?_
      rotate_left
      · intro w hSw
        (try dsimp only at hSw)
        obtain ⟨z0, z1, z3, z4⟩ := HS0.out w hSw.2.2.1
        go_simp
        first | done | with_reducible rfl
      simp only [List.getElem_toArray, List.getElem_cons_zero, List.getElem_cons_succ, Act.put, List.setIfInBounds_toArray, List.set_cons_zero, List.set_cons_succ]
      refine wpAnyH_take (i := 16) (v := ?_) rfl (by kernel_rfl) (by kernel_rfl) (by kernel_rfl) (fun _ _ _ h => h) (Or.inl ⟨by kernel_rfl, ?_⟩) (by assumption) ?_
      rotate_left
      · intro w hSw
        (try dsimp only at hSw)
        go_simp
        first | done | with_reducible rfl
      simp only [List.getElem_toArray, List.getElem_cons_zero, List.getElem_cons_succ, Act.put, List.setIfInBounds_toArray, List.set_cons_zero, List.set_cons_succ]
      refine wpAnyH_take (i := 17) (v := ?_) rfl (by kernel_rfl) (by kernel_rfl) (by kernel_rfl) (fun _ _ _ h => h) (Or.inl ⟨by kernel_rfl, ?_⟩) (by assumption) ?_
      rotate_left
      · intro w hSw
        (try dsimp only at hSw)
        obtain ⟨z0, z1, z3, z4⟩ := HS0.out w hSw.2.2.1
        go_simp
        first | done | with_reducible rfl
      simp only [List.getElem_toArray, List.getElem_cons_zero, List.getElem_cons_succ, Act.put, List.setIfInBounds_toArray, List.set_cons_zero, List.set_cons_succ]
      refine wpAnyH_take (i := 18) (v := ?_) rfl (by kernel_rfl) (by kernel_rfl) (by kernel_rfl) (fun _ _ _ h => h) (Or.inl ⟨by kernel_rfl, ?_⟩) (by assumption) ?_
      rotate_left
      · intro w hSw
        (try dsimp only at hSw)
        go_simp
        first | done | with_reducible rfl
      simp only [List.getElem_toArray, List.getElem_cons_zero, List.getElem_cons_succ, Act.put, List.setIfInBounds_toArray, List.set_cons_zero, List.set_cons_succ]
      refine wpAnyH_take (i := 19) (v := ?_) rfl (by kernel_rfl) (by kernel_rfl) (by kernel_rfl) (fun _ _ _ h => h) (Or.inl ⟨by kernel_rfl, ?_⟩) (by assumption) ?_
      rotate_left
      · intro w hSw
        (try dsimp only at hSw)
        obtain ⟨z0, z1, z3, z4⟩ := HS0.out w hSw.2.2.1
        go_simp
        first | done | with_reducible rfl
      simp only [List.getElem_toArray, List.getElem_cons_zero, List.getElem_cons_succ, Act.put, List.setIfInBounds_toArray, List.set_cons_zero, List.set_cons_succ]
      refine wpAnyH_take (i := 21) (v := ?_) rfl (by kernel_rfl) (by kernel_rfl) (by kernel_rfl) (fun _ _ _ h => h) (Or.inl ⟨by kernel_rfl, ?_⟩) (by assumption) ?_
      rotate_left
      · intro w hSw
        (try dsimp only at hSw)
        go_simp
        first | done | with_reducible rfl
      simp only [List.getElem_toArray, List.getElem_cons_zero, List.getElem_cons_succ, Act.put, List.setIfInBounds_toArray, List.set_cons_zero, List.set_cons_succ]
      refine wpAnyH_take (i := 22) (v := ?_) rfl (by kernel_rfl) (by kernel_rfl) (by kernel_rfl) (fun _ _ _ h => h) (Or.inl ⟨by kernel_rfl, ?_⟩) (by assumption) ?_
      rotate_left
      · intro w hSw
        (try dsimp only at hSw)
        obtain ⟨z0, z1, z3, z4⟩ := HS0.out w hSw.2.2.1
        go_simp
        first | done | with_reducible rfl
      simp only [List.getElem_toArray, List.getElem_cons_zero, List.getElem_cons_succ, Act.put, List.setIfInBounds_toArray, List.set_cons_zero, List.set_cons_succ]
      refine wpAnyH_take (i := 23) (v := ?_) rfl (by kernel_rfl) (by kernel_rfl) (by kernel_rfl) (fun _ _ _ h => h) (Or.inl ⟨by kernel_rfl, ?_⟩) (by assumption) ?_
      rotate_left
      · intro w hSw
        (try dsimp only at hSw)
        go_simp
        first | done | with_reducible rfl
      simp only [List.getElem_toArray, List.getElem_cons_zero, List.getElem_cons_succ, Act.put, List.setIfInBounds_toArray, List.set_cons_zero, List.set_cons_succ]
      refine wpAnyH_take (i := 24) (v := ?_) rfl (by kernel_rfl) (by kernel_rfl) (by kernel_rfl) (fun _ _ _ h => h) (Or.inl ⟨by kernel_rfl, ?_⟩) (by assumption) ?_
      rotate_left
      · intro w hSw
        (try dsimp only at hSw)
        obtain ⟨z0, z1, z3, z4⟩ := HS0.out w hSw.2.2.1
        go_simp
        first | done | with_reducible rfl
      simp only [List.getElem_toArray, List.getElem_cons_zero, List.getElem_cons_succ, Act.put, List.setIfInBounds_toArray, List.set_cons_zero, List.set_cons_succ]
      refine wpAnyH_take (i := 25) (v := ?_) rfl (by kernel_rfl) (by kernel_rfl) (by kernel_rfl) (fun _ _ _ h => h) (Or.inl ⟨by kernel_rfl, ?_⟩) (by assumption) ?_
      rotate_left
      · intro w hSw
        (try dsimp only at hSw)
        go_simp
        first | done | with_reducible rfl
      simp only [List.getElem_toArray, List.getElem_cons_zero, List.getElem_cons_succ, Act.put, List.setIfInBounds_toArray, List.set_cons_zero, List.set_cons_succ]
      refine wpAnyH_take (i := 26) (v := ?_) rfl (by kernel_rfl) (by kernel_rfl) (by kernel_rfl) (fun _ _ _ h => h) (Or.inl ⟨by kernel_rfl, ?_⟩) (by assumption) ?_
      rotate_left
      · intro w hSw
        (try dsimp only at hSw)
        obtain ⟨z0, z1, z3, z4⟩ := HS0.out w hSw.2.2.1
        go_simp
        first | done | with_reducible rfl
      simp only [List.getElem_toArray, List.getElem_cons_zero, List.getElem_cons_succ, Act.put, List.setIfInBounds_toArray, List.set_cons_zero, List.set_cons_succ]
      refine wpAnyH_take (i := 27) (v := ?_) rfl (by kernel_rfl) (by kernel_rfl) (by kernel_rfl) (fun _ _ _ h => h) (Or.inl ⟨by kernel_rfl, ?_⟩) (by assumption) ?_
      rotate_left
      · intro w hSw
        (try dsimp only at hSw)
        go_simp
        first | done | with_reducible rfl
      simp only [List.getElem_toArray, List.getElem_cons_zero, List.getElem_cons_succ, Act.put, List.setIfInBounds_toArray, List.set_cons_zero, List.set_cons_succ]
      refine wpAnyH_take (i := 28) (v := ?_) rfl (by kernel_rfl) (by kernel_rfl) (by kernel_rfl) (fun _ _ _ h => h) (Or.inl ⟨by kernel_rfl, ?_⟩) (by assumption) ?_
      rotate_left
      · intro w hSw
        (try dsimp only at hSw)
        obtain ⟨z0, z1, z3, z4⟩ := HS0.out w hSw.2.2.1
        go_simp
        first | done | with_reducible rfl
      simp only [List.getElem_toArray, List.getElem_cons_zero, List.getElem_cons_succ, Act.put, List.setIfInBounds_toArray, List.set_cons_zero, List.set_cons_succ]
      refine wpAnyH_ready (rs := [20]) (by kernel_rfl) (by simp) ?_
      refine AllReadyH.cons rfl (fun K hK => ?_) ?_
      · simp only [List.getElem_toArray, List.getElem_cons_zero, List.getElem_cons_succ]
        go_simp
        (with_reducible refine (dtext_any person month root B cb m bl tx Hn.out.2.1 Htx HmI.out Hbs.out (by omega) (by omega) u9 (HT.out.go HH9.out.1) (HB.out.go HH9.out.1)).mono ?_)
        rintro e u20 ⟨rfl, hB20⟩
        dsimp only
        have HH20 := Lib.hid (HK.out u9 u20 HH9.out hB20)
        refine hK.out _ _ HH20.out (fun hHeld => ?_)
        clear hK K
        try simp only [List.getElem_toArray, List.getElem_cons_zero, List.getElem_cons_succ, Act.put, List.setIfInBounds_toArray, List.set_cons_zero, List.set_cons_succ]
        refine wpAnyH_ready (rs := [29]) (by kernel_rfl) (by simp) ?_
        refine AllReadyH.cons rfl (fun K hK => ?_) ?_
        · simp only [List.getElem_toArray, List.getElem_cons_zero, List.getElem_cons_succ]
          go_simp
          (with_reducible refine (rtext36_any person month root B cb m bl tx Hn.out.2.1 Htx HmI.out Hbs.out (by omega) (by omega) u20 (HB.out.go HH20.out.1)).mono ?_)
          rintro e u29 ⟨rfl, hB29⟩
          dsimp only
          have HH29 := Lib.hid (HK.out u20 u29 HH20.out hB29)
          refine hK.out _ _ HH29.out (fun hHeld => ?_)
          clear hK K
          try simp only [List.getElem_toArray, List.getElem_cons_zero, List.getElem_cons_succ, Act.put, List.setIfInBounds_toArray, List.set_cons_zero, List.set_cons_succ]
          refine wpAnyH_take (i := 30) (v := .bool true) rfl (by kernel_rfl) (by kernel_rfl) (by kernel_rfl) (fun _ _ _ h => h) (Or.inl ⟨by kernel_rfl, ?_⟩) (by assumption) ?_
          · intro w hSw
            (try dsimp only at hSw)
            go_simp
            first | done | with_reducible rfl
          simp only [List.getElem_toArray, List.getElem_cons_zero, List.getElem_cons_succ, Act.put, List.setIfInBounds_toArray, List.set_cons_zero, List.set_cons_succ]
          refine wpAnyH_take (i := 31) (v := ?_) rfl (by kernel_rfl) (by kernel_rfl) (by kernel_rfl) (fun _ _ _ h => h) (Or.inl ⟨by kernel_rfl, ?_⟩) (by assumption) ?_
          rotate_left
          · intro w hSw
            (try dsimp only at hSw)
            go_simp
            first | done | with_reducible rfl
          simp only [List.getElem_toArray, List.getElem_cons_zero, List.getElem_cons_succ, Act.put, List.setIfInBounds_toArray, List.set_cons_zero, List.set_cons_succ]
          refine wpAnyH_take (i := 32) (v := ?_) rfl (by kernel_rfl) (by kernel_rfl) (by kernel_rfl) (fun _ _ _ h => h) (Or.inl ⟨by kernel_rfl, ?_⟩) (by assumption) ?_
          rotate_left
          · intro w hSw
            (try dsimp only at hSw)
            go_simp
            first | done | with_reducible rfl
          simp only [List.getElem_toArray, List.getElem_cons_zero, List.getElem_cons_succ, Act.put, List.setIfInBounds_toArray, List.set_cons_zero, List.set_cons_succ]
          refine wpAnyH_done (by kernel_rfl) ?_ _
          dsimp only [NoPanic]
          have hbe := HH29.out.1
          clear hHeld
          go_wp2
          go_ret
          exact ⟨rfl, hbe⟩
        exact AllReadyH.nil
      exact AllReadyH.nil
    exact AllReadyH.nil
end Go.Proofs.YtfjkmhbipkoefaaGreatDoor
