/- The walk of DiscloseAgreement. -/
import Derived.Test.YtipnbcggimpdeaaDoorQDsLawF
import Derived.Test.YtipnbcggimpdeaaDoorQDsLawT
import Derived.Test.YtipnbcggimpdeaaDoorQDsLawI
namespace Go.Proofs.YtipnbcggimpdeaaDoor
open Go.RowKit Go.Shelf
set_option linter.unusedVariables false
set_option linter.unusedSimpArgs false
set_option maxRecDepth 100000
/-- What the law holds: both disclosures. -/
structure AgAt (w : World) (cs : Array Value) (T b1 : Nat) (f1 : Array Value) (F1 : DF) (U b2 : Nat) (f2 : Array Value) (F2 : DF) (com : List Int) (ms1 ms2 : List ShM) (ch1 ch2 : List UInt64) (p1 p2 : Forks) (W : World) : Prop where
  l : LawAt w cs T b1 f1 F1 com ms1 ch1 p1 W
  d : W.heap[U]? = some (.cells f2 38 (0, 0))
  r : DRows W b2 F2 com ms2 ch2 p2
theorem AgAt.go {w W W' : World} {cs : Array Value} {T b1 : Nat} {f1 : Array Value} {F1 : DF} {U b2 : Nat} {f2 : Array Value} {F2 : DF} {com : List Int} {ms1 ms2 : List ShM} {ch1 ch2 : List UInt64} {p1 p2 : Forks}
    (h : AgAt w cs T b1 f1 F1 U b2 f2 F2 com ms1 ms2 ch1 ch2 p1 p2 W) (k : Below W.heap.size W W') : AgAt w cs T b1 f1 F1 U b2 f2 F2 com ms1 ms2 ch1 ch2 p1 p2 W' :=
  ⟨h.l.go k, (k.block _ (Array.getElem?_eq_some_iff.1 h.d).1).trans h.d, h.r.go k⟩
theorem key_same {ms1 ms2 : List ShM} {s1 s2 : List Int} {rows : List RowD} {bl : List Int} {N : Nat} (h1 : ms1.map ShM.key = s1.map (shkAt rows bl N)) (h2 : ms2.map ShM.key = s2.map (shkAt rows bl N)) {k j : Nat} (hk : k < ms1.length) (hj : j < ms2.length) (hi : ms1[k].idx = ms2[j].idx) : ms1[k].key = ms2[j].key := by
  have a : ∀ {ms : List ShM} {s : List Int} (_ : ms.map ShM.key = s.map (shkAt rows bl N)) {k : Nat} (hk : k < ms.length), ms[k].key = shkAt rows bl N ms[k].idx := by
    intro ms s h k hk
    have hl : ms.length = s.length := by have := congrArg List.length h; simpa using this
    have e : (ms.map ShM.key)[k]? = (s.map (shkAt rows bl N))[k]? := by rw [h]
    have hks : k < s.length := by omega
    rw [List.getElem?_map, List.getElem?_map, List.getElem?_eq_getElem hk, List.getElem?_eq_getElem hks] at e
    simp only [Option.map_some, Option.some.injEq] at e
    have e2 : ms[k].idx = s[k] := congrArg ShK.idx e
    rw [e2, e]
  rw [a h1 hk, a h2 hj, hi]
set_option maxHeartbeats 8000000 in
theorem discloseAgreement_walk (q : ShtM) (E : Option Addr) (ce : Nat) (sel : List Int) (E2 : Option Addr) (ce2 : Nat) (sel2 : List Int) (seed : ByteArray) (h i i2 : Int) (w : World) (hS : ShtOk w q) (hE : Sl w w.heap.size 1 E sel.length (intV sel)) (hle : sel.length ≤ ce ∧ ce ≤ maxLen) (hse : ∀ x ∈ sel, I64 x) (hE2 : Sl w w.heap.size 1 E2 sel2.length (intV sel2)) (hle2 : sel2.length ≤ ce2 ∧ ce2 ≤ maxLen) (hse2 : ∀ x ∈ sel2, I64 x) (hsd : seed.size ≤ maxLen) (wh : (Lit.int .i64 h).wf = true) (wi : (Lit.int .i64 i).wf = true) (wi2 : (Lit.int .i64 i2).wf = true) (hT : Tabs w) :
    Calls Tryd.prog 4 #[shtV q, .slice E sel.length ce, .slice E2 sel2.length ce2, .string seed, .int .i64 h, .int .i64 i, .int .i64 i2] w fun e w' => e = .returned (.bool true) ∧ Below w.heap.size w w' := by
  obtain ⟨person, month, A, ca, rows, B, cb, bl, root⟩ := q
  obtain ⟨hp, hm, hA, hB, hla, hlb, hrs, hbs⟩ := hS
  dsimp only at hp hm hA hB hla hlb hrs hbs
  obtain ⟨n, hn⟩ : ∃ n, rows.length = n := ⟨_, rfl⟩
  obtain ⟨m, hm'⟩ : ∃ n, bl.length = n := ⟨_, rfl⟩
  obtain ⟨ns, hns⟩ : ∃ n, sel.length = n := ⟨_, rfl⟩
  rw [hn] at hA hla
  rw [hm'] at hB hlb
  rw [hns] at hE hle
  obtain ⟨ns2, hns2⟩ : ∃ n, sel2.length = n := ⟨_, rfl⟩
  rw [hns2] at hE2 hle2
  show Calls _ _ #[.agg #[.string person, .int .i64 month, .slice A rows.length ca, .slice B bl.length cb, .int .u64 root.toNat], .slice E sel.length ce, .slice E2 sel2.length ce2, .string seed, .int .i64 h, .int .i64 i, .int .i64 i2] _ _
  rw [hn, hm', hns, hns2]
  obtain ⟨e1, he1⟩ : ∃ e, showE person month root rows bl sel seed h i = e := ⟨_, rfl⟩
  obtain ⟨e2, he2⟩ : ∃ e, showE person month root rows bl sel2 seed h i2 = e := ⟨_, rfl⟩
  have He2 := Lib.hid he2
  have HE2 := Lib.hid hE2
  have Hns2 := Lib.hid hns2
  obtain ⟨v, hv⟩ : ∃ v, lightB person n m rows ns seed h = v := ⟨_, rfl⟩
  have Hv := Lib.hid hv
  have He1 := Lib.hid he1
  have HA := Lib.hid hA
  have HB := Lib.hid hB
  have HE := Lib.hid hE
  have Hn := Lib.hid (And.intro hn (And.intro hm' hns))
  have HT := Lib.hid hT
  have Hrs := Lib.hid hrs
  have Hbs := Lib.hid hbs
  have Hml : Hid (n ≤ maxLen ∧ m ≤ maxLen ∧ ns ≤ maxLen ∧ ns2 ≤ maxLen) := Lib.hid ⟨by omega, by omega, by omega, by omega⟩
  have HmI := Lib.hid hm
  clear hA hB hn hm' he1 hv hT hrs hbs hla hlb wh wi hE hle hse hns hm hE2 hle2 hse2 hns2 wi2 he2
  go_enter Tryd.func4, Tryd.ntmps4
  go_wp2_with fail
  have hJ := BoxAt.start w #[.string person, .int .i64 month, .slice A n ca, .slice B m cb, .int .u64 root.toNat]
  obtain ⟨V, hV⟩ : ∃ Q : World, Q = w.alloc (.cells #[.string person, .int .i64 month, .slice A n ca, .slice B m cb, .int .u64 root.toNat] 27) := ⟨_, rfl⟩
  rw [← hV] at hJ ⊢
  clear hV
  refine (head36_any V (HT.out.go hJ.be)).mono ?_
  rintro e w1 ⟨rfl, hB1⟩
  have hJ1 := hJ.go hB1
  have k0 : w1.cell? ⟨w.heap.size, 0, none⟩ = some (.string person) := by rw [Lib.cell_of_heap hJ1.b]; rfl
  have k1 : w1.cell? ⟨w.heap.size, 1, none⟩ = some (.int .i64 month) := by rw [Lib.cell_of_heap hJ1.b]; rfl
  have k2 : w1.cell? ⟨w.heap.size, 2, none⟩ = some (.slice A n ca) := by rw [Lib.cell_of_heap hJ1.b]; rfl
  have k3 : w1.cell? ⟨w.heap.size, 3, none⟩ = some (.slice B m cb) := by rw [Lib.cell_of_heap hJ1.b]; rfl
  have k4 : w1.cell? ⟨w.heap.size, 4, none⟩ = some (.int .u64 root.toNat) := by rw [Lib.cell_of_heap hJ1.b]; rfl
  have HJ1 := Lib.hid hJ1
  have hA1 := HA.out.go hJ1.be
  have HA1 := Lib.hid hA1
  clear hB1 hJ hJ1 hA1
  clear V
  go_wp2_with fail
  refine (light36_any person month root A B E ca cb ce n m ns rows seed h v Hn.out.1 Hv Hml.out.1 Hml.out.2.1 Hml.out.2.2.1 hp hsd w1 HA1.out (fun x hx => ⟨(Hrs.out x hx).1, (Hrs.out x hx).2.1⟩)).mono ?_
  rintro e w2 ⟨rfl, hB2⟩
  have hJ2 := HJ1.out.go hB2
  have HJ2 := Lib.hid hJ2
  clear k0 k1 k2 k3 k4 hB2 hJ2 HJ1 HA1
  clear w1
  cases v with
  | false =>
    have hbe := HJ2.out.be
    go_wp2_with fail
    go_ret
    exact ⟨rfl, hbe⟩
  | true =>
    have hl := Hv.out
    unfold lightB smallB at hl
    simp only [Bool.and_eq_true, decide_eq_true_eq] at hl
    obtain ⟨⟨⟨hn24, hm33, hp40⟩, hall⟩, hns40, hsd80, _⟩ := hl
    have hRs : Hid (∀ x ∈ rows, x.l.size ≤ 70368744177000 ∧ x.r.size ≤ 70368744177000 ∧ I64 x.c) := Lib.hid (fun x hx => by
      have h1 := of_decide_eq_true (List.all_eq_true.1 hall x hx)
      exact ⟨by omega, by omega, (Hrs.out x hx).2.2⟩)
    clear hall
    have k0 : w2.cell? ⟨w.heap.size, 0, none⟩ = some (.string person) := by rw [Lib.cell_of_heap HJ2.out.b]; rfl
    have k1 : w2.cell? ⟨w.heap.size, 1, none⟩ = some (.int .i64 month) := by rw [Lib.cell_of_heap HJ2.out.b]; rfl
    have k2 : w2.cell? ⟨w.heap.size, 2, none⟩ = some (.slice A n ca) := by rw [Lib.cell_of_heap HJ2.out.b]; rfl
    have k3 : w2.cell? ⟨w.heap.size, 3, none⟩ = some (.slice B m cb) := by rw [Lib.cell_of_heap HJ2.out.b]; rfl
    have k4 : w2.cell? ⟨w.heap.size, 4, none⟩ = some (.int .u64 root.toNat) := by rw [Lib.cell_of_heap HJ2.out.b]; rfl

    by_cases h40 : (40 : Int) < (ns2 : Int)
    · have hbe := HJ2.out.be
      go_wp2_with fail
      go_ret
      exact ⟨rfl, hbe⟩
    have hns2l : ns2 ≤ 40 := by omega
    go_wp2_with fail
    refine (show_any person month root A B E ca cb ce n m ns rows bl sel seed h i e1 He1 w2 (HT.out.go HJ2.out.be) (HA.out.go HJ2.out.be) (HB.out.go HJ2.out.be) (HE.out.go HJ2.out.be) Hn.out.1 Hn.out.2.1 Hn.out.2.2 Hml.out.1 Hml.out.2.1 (by omega) hp hRs.out Hbs.out hsd).mono ?_
    rintro e w5 ⟨⟨ap1, am1, ar1, aC1, anc1, acc1, aS1, ans1, acs1, ahid1, abld1, asi1, aSA1, ana1, aca1, aSB1, anb1, acb1⟩, com1, ms1, ch1, p1, rfl, hnone1, hok1, hC5⟩
    have hJ5 := HJ2.out.go hC5
    clear k0 k1 k2 k3 k4
    dsimp only [DF.cells]
    go_upto_region 5 with fail
    obtain ⟨w6, hw6⟩ : ∃ Q : World, Q = w5.alloc (.cells #[.string ap1, .int .i64 am1, .int .u64 ar1.toNat, .slice aC1 anc1 acc1, .slice aS1 ans1 acs1, .int .i64 ahid1, .int .i64 abld1, .int .i64 asi1, .slice aSA1 ana1 aca1, .slice aSB1 anb1 acb1] 38) := ⟨_, rfl⟩
    obtain ⟨T, hT'⟩ : ∃ T, T = w5.heap.size := ⟨_, rfl⟩
    obtain ⟨bs, hbs'⟩ : ∃ b, b = w2.heap.size := ⟨_, rfl⟩
    have hJ6 : BoxAt w #[.string person, .int .i64 month, .slice A n ca, .slice B m cb, .int .u64 root.toNat] w6 := by rw [hw6]; exact hJ5.go (bal (Below.refl _ _) _)
    have hd6 : w6.heap[T]? = some (.cells #[.string ap1, .int .i64 am1, .int .u64 ar1.toNat, .slice aC1 anc1 acc1, .slice aS1 ans1 acs1, .int .i64 ahid1, .int .i64 abld1, .int .i64 asi1, .slice aSA1 ana1 aca1, .slice aSB1 anb1 acb1] 38 (0, 0)) := by rw [hw6, hT']; exact World.alloc_heap_new _ _
    have hok6 : e1 = 0 → IsShow person month root rows bl rows.length sel seed (2 ^ h.toNat) i.toNat ⟨ap1, am1, ar1, aC1, anc1, acc1, aS1, ans1, acs1, ahid1, abld1, asi1, aSA1, ana1, aca1, aSB1, anb1, acb1⟩ com1 ms1 ch1 p1 ∧ DRows w6 bs ⟨ap1, am1, ar1, aC1, anc1, acc1, aS1, ans1, acs1, ahid1, abld1, asi1, aSA1, ana1, aca1, aSB1, anb1, acb1⟩ com1 ms1 ch1 p1 := by
      intro he
      obtain ⟨a, b⟩ := hok1 he
      refine ⟨a, ?_⟩
      rw [hw6, hbs']
      exact b.go (bal (Below.refl _ _) _)
    rw [← hw6, ← hT']
    have HJ6 := Lib.hid hJ6
    have Hd6 := Lib.hid hd6
    have Hok6 := Lib.hid hok6
    have Hnone1 := Lib.hid hnone1
    clear hJ6 hd6 hok6 hok1 hnone1 hw6 hT' hbs' hJ5 HJ2 hC5
    clear w5
    clear w2
    have k0 : w6.cell? ⟨w.heap.size, 0, none⟩ = some (.string person) := by rw [Lib.cell_of_heap HJ6.out.b]; rfl
    have k1 : w6.cell? ⟨w.heap.size, 1, none⟩ = some (.int .i64 month) := by rw [Lib.cell_of_heap HJ6.out.b]; rfl
    have k2 : w6.cell? ⟨w.heap.size, 2, none⟩ = some (.slice A n ca) := by rw [Lib.cell_of_heap HJ6.out.b]; rfl
    have k3 : w6.cell? ⟨w.heap.size, 3, none⟩ = some (.slice B m cb) := by rw [Lib.cell_of_heap HJ6.out.b]; rfl
    have k4 : w6.cell? ⟨w.heap.size, 4, none⟩ = some (.int .u64 root.toNat) := by rw [Lib.cell_of_heap HJ6.out.b]; rfl
    go_wp2_with fail
    refine (show_any person month root A B E2 ca cb ce2 n m ns2 rows bl sel2 seed h i2 e2 He2 w6 (HT.out.go HJ6.out.be) (HA.out.go HJ6.out.be) (HB.out.go HJ6.out.be) (HE2.out.go HJ6.out.be) Hn.out.1 Hn.out.2.1 Hns2.out Hml.out.1 Hml.out.2.1 (by omega) hp hRs.out Hbs.out hsd).mono ?_
    rintro e w7 ⟨⟨ap2, am2, ar2, aC2, anc2, acc2, aS2, ans2, acs2, ahid2, abld2, asi2, aSA2, ana2, aca2, aSB2, anb2, acb2⟩, com2, ms2, ch2, p2, rfl, hnone2, hok2, hC7⟩
    have hJ7 := HJ6.out.go hC7
    clear k0 k1 k2 k3 k4
    dsimp only [DF.cells]
    go_upto_region 6 with fail
    obtain ⟨w8, hw8⟩ : ∃ Q : World, Q = w7.alloc (.cells #[.string ap2, .int .i64 am2, .int .u64 ar2.toNat, .slice aC2 anc2 acc2, .slice aS2 ans2 acs2, .int .i64 ahid2, .int .i64 abld2, .int .i64 asi2, .slice aSA2 ana2 aca2, .slice aSB2 anb2 acb2] 38) := ⟨_, rfl⟩
    obtain ⟨U, hU'⟩ : ∃ T, T = w7.heap.size := ⟨_, rfl⟩
    obtain ⟨b2, hb2'⟩ : ∃ b, b = w6.heap.size := ⟨_, rfl⟩
    have hB78 : Below w7.heap.size w7 w8 := by rw [hw8]; exact bal (Below.refl _ _) _
    have hB68 : Below w6.heap.size w6 w8 := bgo hC7 hB78
    have hJ8 : BoxAt w #[.string person, .int .i64 month, .slice A n ca, .slice B m cb, .int .u64 root.toNat] w8 := hJ7.go hB78
    have hd8 : w8.heap[U]? = some (.cells #[.string ap2, .int .i64 am2, .int .u64 ar2.toNat, .slice aC2 anc2 acc2, .slice aS2 ans2 acs2, .int .i64 ahid2, .int .i64 abld2, .int .i64 asi2, .slice aSA2 ana2 aca2, .slice aSB2 anb2 acb2] 38 (0, 0)) := by rw [hw8, hU']; exact World.alloc_heap_new _ _
    rw [← hw8, ← hU']
    clear hw8 hU'
    by_cases he1 : e1 = 0
    · by_cases he2 : e2 = 0
      · obtain ⟨his1, hdr1⟩ := Hok6.out he1
        obtain ⟨his2, hdr2⟩ := hok2 he2
        have hE1 := He1.out
        have hE2' := He2.out
        subst he1 he2
        unfold showE at hE1 hE2'
        have hc1 : validB person month rows bl root = true ∧ selB sel (rows.length : Int) = true ∧ signB seed h i = true := by
          by_cases hc : validB person month rows bl root = true ∧ selB sel (rows.length : Int) = true ∧ signB seed h i = true
          · exact hc
          · rw [if_neg hc] at hE1; cases hE1
        have hc2 : validB person month rows bl root = true ∧ selB sel2 (rows.length : Int) = true ∧ signB seed h i2 = true := by
          by_cases hc : validB person month rows bl root = true ∧ selB sel2 (rows.length : Int) = true ∧ signB seed h i2 = true
          · exact hc
          · rw [if_neg hc] at hE2'; cases hE2'
        have hsA1 : ∀ k, k < sel.length → selAt sel (n : Int) k := by
          have := of_decide_eq_true hc1.2.1
          rw [Hn.out.1] at this
          exact this
        have hsA2 : ∀ k, k < sel2.length → selAt sel2 (n : Int) k := by
          have := of_decide_eq_true hc2.2.1
          rw [Hn.out.1] at this
          exact this
        obtain ⟨_, ⟨hn1, hn2, _⟩, _⟩ := validB_out hc1.1
        obtain ⟨hW1, hml1, _⟩ := whole_show Hn.out.1 (by omega) hsA1 his1.ms_
        obtain ⟨hW2, hml2, _⟩ := whole_show Hn.out.1 (by omega) hsA2 his2.ms_
        have hl1 := sel_le hsA1
        have hl2 := sel_le hsA2
        obtain rfl : root = ar1 := his1.root_.symm
        obtain rfl : root = ar2 := his2.root_.symm
        obtain rfl : n = anc1 := (his1.nc_.trans Hn.out.1).symm
        obtain rfl : n = anc2 := (his2.nc_.trans Hn.out.1).symm
        obtain rfl : ns = ans1 := (his1.ns_.trans Hn.out.2.2).symm
        obtain rfl : ns2 = ans2 := (his2.ns_.trans Hns2.out).symm
        obtain rfl : com1 = com2 := his1.com_.trans his2.com_.symm
        have hcl : com1.length = n := by rw [his1.com_, comL_len]; exact Hn.out.1
        rw [Hn.out.2.2] at hml1 hl1
        rw [Hns2.out] at hml2 hl2
        have hA8 : AgAt w #[.string person, .int .i64 month, .slice A n ca, .slice B m cb, .int .u64 root.toNat] T bs #[.string ap1, .int .i64 am1, .int .u64 root.toNat, .slice aC1 n acc1, .slice aS1 ns acs1, .int .i64 ahid1, .int .i64 abld1, .int .i64 asi1, .slice aSA1 ana1 aca1, .slice aSB1 anb1 acb1] ⟨ap1, am1, root, aC1, n, acc1, aS1, ns, acs1, ahid1, abld1, asi1, aSA1, ana1, aca1, aSB1, anb1, acb1⟩ U b2 #[.string ap2, .int .i64 am2, .int .u64 root.toNat, .slice aC2 n acc2, .slice aS2 ns2 acs2, .int .i64 ahid2, .int .i64 abld2, .int .i64 asi2, .slice aSA2 ana2 aca2, .slice aSB2 anb2 acb2] ⟨ap2, am2, root, aC2, n, acc2, aS2, ns2, acs2, ahid2, abld2, asi2, aSA2, ana2, aca2, aSB2, anb2, acb2⟩ com1 ms1 ms2 ch1 ch2 p1 p2 w8 := by
          refine ⟨⟨hJ8, ?_, hdr1.go hB68⟩, hd8, ?_⟩
          · exact (hB68.block _ (Array.getElem?_eq_some_iff.1 Hd6.out).1).trans Hd6.out
          · rw [hb2']; exact hdr2.go hB78
        have HA8 := Lib.hid hA8
        have HW := Lib.hid (And.intro hW1 (And.intro hW2 (And.intro his1.ms_ his2.ms_)))
        clear hE1 hE2' hc1 hc2 hsA1 hsA2 hn1 hn2 his1 his2 hdr1 hdr2 hok2 hnone2 Hnone1 Hok6 Hd6 hd8 hJ8 hA8 hW1 hW2 hB68 hB78 hC7 hJ7 HJ6 hb2'
        clear w7
        clear w6
        have t2 : w8.cell? ⟨T, 2, none⟩ = some (.int .u64 root.toNat) := by rw [Lib.cell_of_heap HA8.out.l.d]; rfl
        have t3 : w8.cell? ⟨T, 3, none⟩ = some (.slice aC1 n acc1) := by rw [Lib.cell_of_heap HA8.out.l.d]; rfl
        have t4 : w8.cell? ⟨T, 4, none⟩ = some (.slice aS1 ns acs1) := by rw [Lib.cell_of_heap HA8.out.l.d]; rfl
        have u2 : w8.cell? ⟨U, 2, none⟩ = some (.int .u64 root.toNat) := by rw [Lib.cell_of_heap HA8.out.d]; rfl
        have u3 : w8.cell? ⟨U, 3, none⟩ = some (.slice aC2 n acc2) := by rw [Lib.cell_of_heap HA8.out.d]; rfl
        have u4 : w8.cell? ⟨U, 4, none⟩ = some (.slice aS2 ns2 acs2) := by rw [Lib.cell_of_heap HA8.out.d]; rfl
        have hrr : ((root.toNat : Int) != (root.toNat : Int)) = false := by simp
        have hq1 : decide ((24 : Int) < (ns : Int)) = false := by simp; omega
        have hq2 : decide ((24 : Int) < (ns2 : Int)) = false := by simp; omega
        go_wp2_with fail

        obtain ⟨C1, cc1, hC1, hS1⟩ := own_slice HA8.out.l.r.c
        injection hC1 with v1 v2 v3
        subst v1 v3
        obtain ⟨C2, cc2, hC2, hS2⟩ := own_slice HA8.out.r.c
        injection hC2 with v1 v2 v3
        subst v1 v3
        refine (ints_any _ _ _ _ n n com1 com1 true hcl hcl (Lib.hid (by simp)) (by omega) (by omega) w8 hS1 hS2).mono ?_
        rintro e w9 ⟨rfl, hB9⟩
        have hA9 := HA8.out.go hB9
        have HA9 := Lib.hid hA9
        clear t2 t3 t4 u2 u3 u4 hS1 hS2 hB9 HA8 hcl hA9
        clear w8
        have t4 : w9.cell? ⟨T, 4, none⟩ = some (.slice aS1 ns acs1) := by rw [Lib.cell_of_heap HA9.out.l.d]; rfl
        have u4 : w9.cell? ⟨U, 4, none⟩ = some (.slice aS2 ns2 acs2) := by rw [Lib.cell_of_heap HA9.out.d]; rfl
        go_wp2_with fail

        clear t4 u4
        go_loopw [90] (fun ix wr => ∃ k : Nat, k ≤ ns ∧ ix = .int .i64 (k : Int) ∧ AgAt w #[.string person, .int .i64 month, .slice A n ca, .slice B m cb, .int .u64 root.toNat] T bs #[.string ap1, .int .i64 am1, .int .u64 root.toNat, .slice aC1 n acc1, .slice aS1 ns acs1, .int .i64 ahid1, .int .i64 abld1, .int .i64 asi1, .slice aSA1 ana1 aca1, .slice aSB1 anb1 acb1] ⟨ap1, am1, root, aC1, n, acc1, aS1, ns, acs1, ahid1, abld1, asi1, aSA1, ana1, aca1, aSB1, anb1, acb1⟩ U b2 #[.string ap2, .int .i64 am2, .int .u64 root.toNat, .slice aC2 n acc2, .slice aS2 ns2 acs2, .int .i64 ahid2, .int .i64 abld2, .int .i64 asi2, .slice aSA2 ana2 aca2, .slice aSB2 anb2 acb2] ⟨ap2, am2, root, aC2, n, acc2, aS2, ns2, acs2, ahid2, abld2, asi2, aSA2, ana2, aca2, aSB2, anb2, acb2⟩ com1 ms1 ms2 ch1 ch2 p1 p2 wr) (fun ix _ => ns - (intOf ix).toNat)
        case atStart => exact ⟨0, Nat.zero_le _, rfl, HA9.out⟩
        case round =>
          clear HA9
          obtain ⟨k, hk, rfl, hL⟩ := hrel
          by_cases hlt : k < ns
          · have hlt' : (k : Int) < (ns : Int) := by omega
            have hkm : k < ms1.length := by omega
            obtain ⟨g, go, heS, hg, hcS⟩ : ∃ g o, aS1 = some ⟨g, o, none⟩ ∧ g < wr.heap.size ∧ ∀ j u, (shmsV ms1)[j]? = some u → wr.cell? ⟨g, o + j, none⟩ = some u := by
              obtain ⟨S', sc', hS', hSl⟩ := own_slice hL.l.r.s
              have eS : aS1 = S' := by injection hS'
              subst eS
              exact hSl.2 (show 0 < ns by omega)
            subst heS
            have s0 := hcS _ _ (shm_get ms1 k hkm 0 (by decide))
            have s1 := hcS _ _ (shm_get ms1 k hkm 1 (by decide))
            have s2 := hcS _ _ (shm_get ms1 k hkm 2 (by decide))
            have s3 := hcS _ _ (shm_get ms1 k hkm 3 (by decide))
            have s4 := hcS _ _ (shm_get ms1 k hkm 4 (by decide))
            have s5 := hcS _ _ (shm_get ms1 k hkm 5 (by decide))
            have hP := hL.l.r.sp _ (List.getElem_mem hkm)
            have hpl := (HW.out.1 k hkm).2.2.2
            have Hkey := Lib.hid (fun j (hj : j < ms2.length) (hi : ms1[k].idx = ms2[j].idx) => key_same HW.out.2.2.1 HW.out.2.2.2 hkm hj hi)
            obtain ⟨y, hy⟩ : ∃ y, ms1[k] = y := ⟨_, rfl⟩
            rw [hy] at s0 s1 s2 s3 s4 s5 hP hpl Hkey
            obtain ⟨yi, ⟨xl, xc, xr⟩, yb, PA, ppc, pp⟩ := y
            dsimp only [shmV] at s0 s1 s2 s3 s4 s5 hP hpl
            obtain ⟨pl, hpl'⟩ : ∃ l, pp.length = l := ⟨_, rfl⟩
            rw [hpl'] at s5 hP hpl
            have z0 : wr.cell? ⟨g, go + k * 6, none⟩ = some (.int .i64 yi) := s0
            have z1 : wr.cell? ⟨g, go + k * 6 + 1, none⟩ = some (.string xl) := s1
            have z2 : wr.cell? ⟨g, go + k * 6 + 2, none⟩ = some (.int .i64 xc) := s2
            have z3 : wr.cell? ⟨g, go + k * 6 + 3, none⟩ = some (.string xr) := s3
            have z4 : wr.cell? ⟨g, go + k * 6 + 4, none⟩ = some (.int .i64 yb) := s4
            have z5 : wr.cell? ⟨g, go + k * 6 + 5, none⟩ = some (.slice PA pl ppc) := s5
            have HL := Lib.hid hL
            have Hpp := Lib.hid hpl'
            have HP := Lib.hid hP
            clear hL hcS hy s0 s1 s2 s3 s4 s5 hP hpl'
            go_upto_region 13 with fail

            obtain ⟨V, hV⟩ : ∃ Q : World, Q = wr.alloc (.cells #[.int .i64 yi, .string xl, .int .i64 xc, .string xr, .int .i64 yb, .slice PA pl ppc] 45) := ⟨_, rfl⟩
            obtain ⟨X, hX⟩ : ∃ X, X = wr.heap.size := ⟨_, rfl⟩
            have hBV : Below wr.heap.size wr V := by rw [hV]; exact bal (Below.refl _ _) _
            have hAV : AgAt w #[.string person, .int .i64 month, .slice A n ca, .slice B m cb, .int .u64 root.toNat] T bs #[.string ap1, .int .i64 am1, .int .u64 root.toNat, .slice aC1 n acc1, .slice (some ⟨g, go, none⟩) ns acs1, .int .i64 ahid1, .int .i64 abld1, .int .i64 asi1, .slice aSA1 ana1 aca1, .slice aSB1 anb1 acb1] ⟨ap1, am1, root, aC1, n, acc1, some ⟨g, go, none⟩, ns, acs1, ahid1, abld1, asi1, aSA1, ana1, aca1, aSB1, anb1, acb1⟩ U b2 #[.string ap2, .int .i64 am2, .int .u64 root.toNat, .slice aC2 n acc2, .slice aS2 ns2 acs2, .int .i64 ahid2, .int .i64 abld2, .int .i64 asi2, .slice aSA2 ana2 aca2, .slice aSB2 anb2 acb2] ⟨ap2, am2, root, aC2, n, acc2, aS2, ns2, acs2, ahid2, abld2, asi2, aSA2, ana2, aca2, aSB2, anb2, acb2⟩ com1 ms1 ms2 ch1 ch2 p1 p2 V := HL.out.go hBV
            have hXV : V.heap[X]? = some (.cells #[.int .i64 yi, .string xl, .int .i64 xc, .string xr, .int .i64 yb, .slice PA pl ppc] 45 (0, 0)) := by rw [hV, hX]; exact World.alloc_heap_new _ _
            have hPV := own_below HP.out hBV
            rw [← hV, ← hX]
            have HR := Lib.hid (And.intro hAV (And.intro hXV hPV))
            have u4 : V.cell? ⟨U, 4, none⟩ = some (.slice aS2 ns2 acs2) := by rw [Lib.cell_of_heap hAV.d]; rfl
            clear hV hX hBV hAV hXV hPV HL HP z0 z1 z2 z3 z4 z5 hg
            clear wr
            go_wp2_with fail
            clear u4
            go_loopw [97] (fun ix wr => ∃ j : Nat, j ≤ ns2 ∧ ix = .int .i64 (j : Int) ∧ AgAt w #[.string person, .int .i64 month, .slice A n ca, .slice B m cb, .int .u64 root.toNat] T bs #[.string ap1, .int .i64 am1, .int .u64 root.toNat, .slice aC1 n acc1, .slice (some ⟨g, go, none⟩) ns acs1, .int .i64 ahid1, .int .i64 abld1, .int .i64 asi1, .slice aSA1 ana1 aca1, .slice aSB1 anb1 acb1] ⟨ap1, am1, root, aC1, n, acc1, some ⟨g, go, none⟩, ns, acs1, ahid1, abld1, asi1, aSA1, ana1, aca1, aSB1, anb1, acb1⟩ U b2 #[.string ap2, .int .i64 am2, .int .u64 root.toNat, .slice aC2 n acc2, .slice aS2 ns2 acs2, .int .i64 ahid2, .int .i64 abld2, .int .i64 asi2, .slice aSA2 ana2 aca2, .slice aSB2 anb2 acb2] ⟨ap2, am2, root, aC2, n, acc2, aS2, ns2, acs2, ahid2, abld2, asi2, aSA2, ana2, aca2, aSB2, anb2, acb2⟩ com1 ms1 ms2 ch1 ch2 p1 p2 wr ∧ wr.heap[X]? = some (.cells #[.int .i64 yi, .string xl, .int .i64 xc, .string xr, .int .i64 yb, .slice PA pl ppc] 45 (0, 0)) ∧ wr.ownsRow bs 110 2 (.slice PA pl ppc) pl (forkV pp)) (fun ix _ => ns2 - (intOf ix).toNat)
            case atStart => exact ⟨0, Nat.zero_le _, rfl, HR.out⟩
            case round =>
              clear HR
              obtain ⟨j, hj, rfl, hL, hX, hP⟩ := hrel
              by_cases hlj : j < ns2
              · have hlj' : (j : Int) < (ns2 : Int) := by omega
                have hjm : j < ms2.length := by omega
                obtain ⟨g2, go2, heS, hg2, hcS⟩ : ∃ g o, aS2 = some ⟨g, o, none⟩ ∧ g < wr.heap.size ∧ ∀ j u, (shmsV ms2)[j]? = some u → wr.cell? ⟨g, o + j, none⟩ = some u := by
                  obtain ⟨S', sc', hS', hSl⟩ := own_slice hL.r.s
                  have eS : aS2 = S' := by injection hS'
                  subst eS
                  exact hSl.2 (show 0 < ns2 by omega)
                subst heS
                have s0 := hcS _ _ (shm_get ms2 j hjm 0 (by decide))
                have s1 := hcS _ _ (shm_get ms2 j hjm 1 (by decide))
                have s2 := hcS _ _ (shm_get ms2 j hjm 2 (by decide))
                have s3 := hcS _ _ (shm_get ms2 j hjm 3 (by decide))
                have s4 := hcS _ _ (shm_get ms2 j hjm 4 (by decide))
                have s5 := hcS _ _ (shm_get ms2 j hjm 5 (by decide))
                have hP2 := hL.r.sp _ (List.getElem_mem hjm)
                have hkey := Hkey.out j hjm
                obtain ⟨y, hy⟩ : ∃ y, ms2[j] = y := ⟨_, rfl⟩
                rw [hy] at s0 s1 s2 s3 s4 s5 hP2 hkey
                obtain ⟨yi2, ⟨xl2, xc2, xr2⟩, yb2, PA2, ppc2, pp2⟩ := y
                dsimp only [shmV, ShM.key] at s0 s1 s2 s3 s4 s5 hP2 hkey
                obtain ⟨pl2, hpl2⟩ : ∃ l, pp2.length = l := ⟨_, rfl⟩
                rw [hpl2] at s5 hP2
                have z0 : wr.cell? ⟨g2, go2 + j * 6, none⟩ = some (.int .i64 yi2) := s0
                have z1 : wr.cell? ⟨g2, go2 + j * 6 + 1, none⟩ = some (.string xl2) := s1
                have z2 : wr.cell? ⟨g2, go2 + j * 6 + 2, none⟩ = some (.int .i64 xc2) := s2
                have z3 : wr.cell? ⟨g2, go2 + j * 6 + 3, none⟩ = some (.string xr2) := s3
                have z4 : wr.cell? ⟨g2, go2 + j * 6 + 4, none⟩ = some (.int .i64 yb2) := s4
                have z5 : wr.cell? ⟨g2, go2 + j * 6 + 5, none⟩ = some (.slice PA2 pl2 ppc2) := s5
                have HL := Lib.hid (And.intro hL (And.intro hX (And.intro hP hP2)))
                have Hk := Lib.hid hkey
                have Hpl := Lib.hid hpl2
                clear hL hX hP hcS hy s0 s1 s2 s3 s4 s5 hP2 hpl2 hkey
                go_upto_region 16 with fail

                obtain ⟨V, hV⟩ : ∃ Q : World, Q = wr.alloc (.cells #[.int .i64 yi2, .string xl2, .int .i64 xc2, .string xr2, .int .i64 yb2, .slice PA2 pl2 ppc2] 45) := ⟨_, rfl⟩
                obtain ⟨Y, hY⟩ : ∃ X, X = wr.heap.size := ⟨_, rfl⟩
                have hBV : Below wr.heap.size wr V := by rw [hV]; exact bal (Below.refl _ _) _
                have hAV : AgAt w #[.string person, .int .i64 month, .slice A n ca, .slice B m cb, .int .u64 root.toNat] T bs #[.string ap1, .int .i64 am1, .int .u64 root.toNat, .slice aC1 n acc1, .slice (some ⟨g, go, none⟩) ns acs1, .int .i64 ahid1, .int .i64 abld1, .int .i64 asi1, .slice aSA1 ana1 aca1, .slice aSB1 anb1 acb1] ⟨ap1, am1, root, aC1, n, acc1, some ⟨g, go, none⟩, ns, acs1, ahid1, abld1, asi1, aSA1, ana1, aca1, aSB1, anb1, acb1⟩ U b2 #[.string ap2, .int .i64 am2, .int .u64 root.toNat, .slice aC2 n acc2, .slice (some ⟨g2, go2, none⟩) ns2 acs2, .int .i64 ahid2, .int .i64 abld2, .int .i64 asi2, .slice aSA2 ana2 aca2, .slice aSB2 anb2 acb2] ⟨ap2, am2, root, aC2, n, acc2, some ⟨g2, go2, none⟩, ns2, acs2, ahid2, abld2, asi2, aSA2, ana2, aca2, aSB2, anb2, acb2⟩ com1 ms1 ms2 ch1 ch2 p1 p2 V := HL.out.1.go hBV
                have hYV : V.heap[Y]? = some (.cells #[.int .i64 yi2, .string xl2, .int .i64 xc2, .string xr2, .int .i64 yb2, .slice PA2 pl2 ppc2] 45 (0, 0)) := by rw [hV, hY]; exact World.alloc_heap_new _ _
                have hXV : V.heap[X]? = some (.cells #[.int .i64 yi, .string xl, .int .i64 xc, .string xr, .int .i64 yb, .slice PA pl ppc] 45 (0, 0)) := (hBV.block _ (Array.getElem?_eq_some_iff.1 HL.out.2.1).1).trans HL.out.2.1
                have hPV := own_below HL.out.2.2.1 hBV
                have hP2V := own_below HL.out.2.2.2 hBV
                rw [← hV, ← hY]
                have x0 : V.cell? ⟨X, 0, none⟩ = some (.int .i64 yi) := by rw [Lib.cell_of_heap hXV]; rfl
                have x1 : V.cell? ⟨X, 1, none⟩ = some (.string xl) := by rw [Lib.cell_of_heap hXV]; rfl
                have x2 : V.cell? ⟨X, 2, none⟩ = some (.int .i64 xc) := by rw [Lib.cell_of_heap hXV]; rfl
                have x3 : V.cell? ⟨X, 3, none⟩ = some (.string xr) := by rw [Lib.cell_of_heap hXV]; rfl
                have x4 : V.cell? ⟨X, 4, none⟩ = some (.int .i64 yb) := by rw [Lib.cell_of_heap hXV]; rfl
                have x5 : V.cell? ⟨X, 5, none⟩ = some (.slice PA pl ppc) := by rw [Lib.cell_of_heap hXV]; rfl
                have y0 : V.cell? ⟨Y, 0, none⟩ = some (.int .i64 yi2) := by rw [Lib.cell_of_heap hYV]; rfl
                have y1 : V.cell? ⟨Y, 1, none⟩ = some (.string xl2) := by rw [Lib.cell_of_heap hYV]; rfl
                have y2 : V.cell? ⟨Y, 2, none⟩ = some (.int .i64 xc2) := by rw [Lib.cell_of_heap hYV]; rfl
                have y3 : V.cell? ⟨Y, 3, none⟩ = some (.string xr2) := by rw [Lib.cell_of_heap hYV]; rfl
                have y4 : V.cell? ⟨Y, 4, none⟩ = some (.int .i64 yb2) := by rw [Lib.cell_of_heap hYV]; rfl
                have y5 : V.cell? ⟨Y, 5, none⟩ = some (.slice PA2 pl2 ppc2) := by rw [Lib.cell_of_heap hYV]; rfl
                have HR := Lib.hid (And.intro hAV (And.intro hXV (And.intro hPV hP2V)))
                clear hV hY hBV hAV hYV hXV hPV hP2V HL z0 z1 z2 z3 z4 z5 hg2
                clear wr
                by_cases hii : yi = yi2
                · have hk2 := Hk.out hii
                  injection hk2 with e0 e1 e2 e3
                  injection e1 with e4 e5 e6
                  subst e0 e2 e3 e4 e5 e6
                  obtain rfl : pl = pl2 := Hpp.out.symm.trans Hpl.out
                  obtain ⟨P1, pc1, hP1, hS1⟩ := own_slice HR.out.2.2.1
                  injection hP1 with v1 v2 v3
                  subst v1 v3
                  obtain ⟨P2, pc2, hP2, hS2⟩ := own_slice HR.out.2.2.2
                  injection hP2 with v1 v2 v3
                  subst v1 v3
                  have HS1 := Lib.hid hS1
                  have HS2 := Lib.hid hS2
                  clear hS1 hS2 hii
                  go_wp2_with fail
                  refine (sameshown_ok yi xl xc xr yb PA PA2 ppc ppc2 pl pp V Hpp.out HS1.out HS2.out (by omega)).mono ?_
                  rintro e wz ⟨rfl, hBz⟩
                  have HZ := Lib.hid (And.intro (HR.out.1.go hBz) (And.intro ((hBz.block _ (Array.getElem?_eq_some_iff.1 HR.out.2.1).1).trans HR.out.2.1) (own_below HR.out.2.2.1 hBz)))
                  clear hBz HR HS1 HS2 x0 x1 x2 x3 x4 x5 y0 y1 y2 y3 y4 y5
                  go_wp2_with fail
                  go_roundw
                  case rel => exact ⟨j + 1, by omega, by go_num, HZ.out⟩
                  case measure => simp [intOf]; omega
                · go_wp2_with fail
                  go_roundw
                  case rel => exact ⟨j + 1, by omega, by go_num, HR.out.1, HR.out.2.1, HR.out.2.2.1⟩
                  case measure => simp [intOf]; omega
              · obtain rfl : ns2 = j := by omega
                have HLo := Lib.hid hL
                clear hL hX hP
                go_wp2_with fail
                go_roundw
                case rel => exact ⟨k + 1, by omega, by go_num, HLo.out⟩
                case measure => simp [intOf]; omega
          · obtain rfl : ns = k := by omega
            have hbe := hL.l.x.be
            go_wp2_with fail
            go_ret
            exact ⟨rfl, hbe⟩
      · have hne : (e2 != 0) = true := bne_iff_ne.2 he2
        subst he1
        have hbe := hJ8.be
        go_wp2_with fail
        go_ret
        exact ⟨rfl, hbe⟩
    · have hne : (e1 != 0) = true := bne_iff_ne.2 he1
      have hbe := hJ8.be
      go_wp2_with fail
      go_ret
      exact ⟨rfl, hbe⟩
end Go.Proofs.YtipnbcggimpdeaaDoor
