/- The walk of DiscloseHidden. -/
import Derived.Test.YtipnbcggimpdeaaDoorQDsLawH
namespace Go.Proofs.YtipnbcggimpdeaaDoor
open Go.RowKit Go.Shelf
set_option linter.unusedVariables false
set_option linter.unusedSimpArgs false
set_option maxRecDepth 100000
/-- The disclosure that a law holds, and the boxed payslip. -/
structure LawAt (w : World) (cs : Array Value) (T base : Nat) (f : Array Value) (F : DF) (com : List Int) (ms : List ShM) (ch : List UInt64) (p : Forks) (W : World) : Prop where
  x : BoxAt w cs W
  d : W.heap[T]? = some (.cells f 38 (0, 0))
  r : DRows W base F com ms ch p
theorem LawAt.go {w W W' : World} {cs : Array Value} {T base : Nat} {f : Array Value} {F : DF} {com : List Int} {ms : List ShM} {ch : List UInt64} {p : Forks} (h : LawAt w cs T base f F com ms ch p W) (k : Below W.heap.size W W') : LawAt w cs T base f F com ms ch p W' :=
  ⟨h.x.go k, (k.block _ (Array.getElem?_eq_some_iff.1 h.d).1).trans h.d, h.r.go k⟩

theorem whole_show {rows : List RowD} {bl sel : List Int} {n : Nat} {ms : List ShM} (hn : rows.length = n) (h1 : n ≤ 1024) (hs : ∀ k, k < sel.length → selAt sel (n : Int) k) (hm : ms.map ShM.key = sel.map (shkAt rows bl rows.length)) :
    WholeK ms n ∧ ms.length = sel.length ∧ (∀ k (h : k < ms.length), ms[k].idx = sel.getD k 0 ∧ ms[k].row = rows.getD (sel.getD k 0).toNat default) := by
  have hl : ms.length = sel.length := by have := congrArg List.length hm; simpa using this
  have hk : ∀ k (h : k < ms.length), ms[k].key = shkAt rows bl rows.length (sel.getD k 0) := by
    intro k h
    have e : (ms.map ShM.key)[k]? = (sel.map (shkAt rows bl rows.length))[k]? := by rw [hm]
    rw [List.getElem?_map, List.getElem?_map, List.getElem?_eq_getElem h, List.getElem?_eq_getElem (by omega : k < sel.length)] at e
    simp only [Option.map_some, Option.some.injEq] at e
    rw [e]
    simp [List.getD, show k < sel.length by omega]
  have hi : ∀ k (h : k < ms.length), ms[k].idx = sel.getD k 0 := fun k h => congrArg ShK.idx (hk k h)
  have hp : ∀ k (h : k < ms.length), ms[k].p = pathL (leafK rows bl rows.length) (sel.getD k 0) := fun k h => congrArg ShK.p (hk k h)
  refine ⟨fun k h => ?_, hl, fun k h => ⟨hi k h, congrArg ShK.row (hk k h)⟩⟩
  have hsk := hs k (by omega)
  unfold selAt at hsk
  refine ⟨by rw [hi k h]; exact hsk.1, by rw [hi k h]; exact hsk.2.1, fun h2 => ?_, ?_⟩
  · rw [hi k h, hi (k - 1) (by omega)]
    exact hsk.2.2 h2
  · rw [hp k h]
    obtain ⟨q, hq⟩ : ∃ q : Nat, sel.getD k 0 = q := ⟨(sel.getD k 0).toNat, by omega⟩
    rw [hq] at hsk ⊢
    have := pathL_len (leafK rows bl rows.length) q (by rw [leafK_len]; omega) (by rw [leafK_len]; omega)
    omega
set_option maxHeartbeats 8000000 in
theorem discloseHidden_walk (q : ShtM) (E : Option Addr) (ce : Nat) (sel : List Int) (seed : ByteArray) (h i : Int) (w : World) (hS : ShtOk w q) (hE : Sl w w.heap.size 1 E sel.length (intV sel)) (hle : sel.length ≤ ce ∧ ce ≤ maxLen) (hse : ∀ x ∈ sel, I64 x) (hsd : seed.size ≤ maxLen) (wh : (Lit.int .i64 h).wf = true) (wi : (Lit.int .i64 i).wf = true) (hT : Tabs w) :
    Calls Tryd.prog 6 #[shtV q, .slice E sel.length ce, .string seed, .int .i64 h, .int .i64 i] w fun e w' => e = .returned (.bool true) ∧ Below w.heap.size w w' := by
  obtain ⟨person, month, A, ca, rows, B, cb, bl, root⟩ := q
  obtain ⟨hp, hm, hA, hB, hla, hlb, hrs, hbs⟩ := hS
  dsimp only at hp hm hA hB hla hlb hrs hbs
  obtain ⟨n, hn⟩ : ∃ n, rows.length = n := ⟨_, rfl⟩
  obtain ⟨m, hm'⟩ : ∃ n, bl.length = n := ⟨_, rfl⟩
  obtain ⟨ns, hns⟩ : ∃ n, sel.length = n := ⟨_, rfl⟩
  rw [hn] at hA hla
  rw [hm'] at hB hlb
  rw [hns] at hE hle
  show Calls _ _ #[.agg #[.string person, .int .i64 month, .slice A rows.length ca, .slice B bl.length cb, .int .u64 root.toNat], .slice E sel.length ce, .string seed, .int .i64 h, .int .i64 i] _ _
  rw [hn, hm', hns]
  obtain ⟨e1, he1⟩ : ∃ e, showE person month root rows bl sel seed h i = e := ⟨_, rfl⟩
  obtain ⟨v, hv⟩ : ∃ v, lightB person n m rows ns seed h = v := ⟨_, rfl⟩
  have Hv := Lib.hid hv
  have He1 := Lib.hid he1
  have HA := Lib.hid hA
  have HB := Lib.hid hB
  have HE := Lib.hid hE
  have Hn := Lib.hid (And.intro hn (And.intro hm' hns))
  have HT := Lib.hid hT
  have Hrs := Lib.hid hrs
  have Hbs := Lib.hid hbs
  have Hml : Hid (n ≤ maxLen ∧ m ≤ maxLen ∧ ns ≤ maxLen) := Lib.hid ⟨by omega, by omega, by omega⟩
  have HmI := Lib.hid hm
  clear hA hB hn hm' he1 hv hT hrs hbs hla hlb wh wi hE hle hse hns hm
  go_enter Tryd.func6, Tryd.ntmps6
  go_wp2_with fail
  have hJ := BoxAt.start w #[.string person, .int .i64 month, .slice A n ca, .slice B m cb, .int .u64 root.toNat]
  obtain ⟨V, hV⟩ : ∃ Q : World, Q = w.alloc (.cells #[.string person, .int .i64 month, .slice A n ca, .slice B m cb, .int .u64 root.toNat] 27) := ⟨_, rfl⟩
  rw [← hV] at hJ ⊢
  clear hV
  refine (head36_any V (HT.out.go hJ.be)).mono ?_
  rintro e w1 ⟨rfl, hB1⟩
  have hJ1 := hJ.go hB1
  have k0 : w1.cell? ⟨w.heap.size, 0, none⟩ = some (.string person) := by rw [Lib.cell_of_heap hJ1.b]; rfl
  have k1 : w1.cell? ⟨w.heap.size, 1, none⟩ = some (.int .i64 month) := by rw [Lib.cell_of_heap hJ1.b]; rfl
  have k2 : w1.cell? ⟨w.heap.size, 2, none⟩ = some (.slice A n ca) := by rw [Lib.cell_of_heap hJ1.b]; rfl
  have k3 : w1.cell? ⟨w.heap.size, 3, none⟩ = some (.slice B m cb) := by rw [Lib.cell_of_heap hJ1.b]; rfl
  have k4 : w1.cell? ⟨w.heap.size, 4, none⟩ = some (.int .u64 root.toNat) := by rw [Lib.cell_of_heap hJ1.b]; rfl
  have HJ1 := Lib.hid hJ1
  have hA1 := HA.out.go hJ1.be
  have HA1 := Lib.hid hA1
  clear hB1 hJ hJ1 hA1
  clear V
  go_wp2_with fail
  refine (light36_any person month root A B E ca cb ce n m ns rows seed h v Hn.out.1 Hv Hml.out.1 Hml.out.2.1 Hml.out.2.2 hp hsd w1 HA1.out (fun x hx => ⟨(Hrs.out x hx).1, (Hrs.out x hx).2.1⟩)).mono ?_
  rintro e w2 ⟨rfl, hB2⟩
  have hJ2 := HJ1.out.go hB2
  have HJ2 := Lib.hid hJ2
  clear k0 k1 k2 k3 k4 hB2 hJ2 HJ1 HA1
  clear w1
  cases v with
  | false =>
    have hbe := HJ2.out.be
    go_wp2_with fail
    go_ret
    exact ⟨rfl, hbe⟩
  | true =>
    have hl := Hv.out
    unfold lightB smallB at hl
    simp only [Bool.and_eq_true, decide_eq_true_eq] at hl
    obtain ⟨⟨⟨hn24, hm33, hp40⟩, hall⟩, hns40, hsd80, _⟩ := hl
    have hRs : Hid (∀ x ∈ rows, x.l.size ≤ 70368744177000 ∧ x.r.size ≤ 70368744177000 ∧ I64 x.c) := Lib.hid (fun x hx => by
      have h1 := of_decide_eq_true (List.all_eq_true.1 hall x hx)
      exact ⟨by omega, by omega, (Hrs.out x hx).2.2⟩)
    clear hall
    have k0 : w2.cell? ⟨w.heap.size, 0, none⟩ = some (.string person) := by rw [Lib.cell_of_heap HJ2.out.b]; rfl
    have k1 : w2.cell? ⟨w.heap.size, 1, none⟩ = some (.int .i64 month) := by rw [Lib.cell_of_heap HJ2.out.b]; rfl
    have k2 : w2.cell? ⟨w.heap.size, 2, none⟩ = some (.slice A n ca) := by rw [Lib.cell_of_heap HJ2.out.b]; rfl
    have k3 : w2.cell? ⟨w.heap.size, 3, none⟩ = some (.slice B m cb) := by rw [Lib.cell_of_heap HJ2.out.b]; rfl
    have k4 : w2.cell? ⟨w.heap.size, 4, none⟩ = some (.int .u64 root.toNat) := by rw [Lib.cell_of_heap HJ2.out.b]; rfl
    go_wp2_with fail
    refine (show_any person month root A B E ca cb ce n m ns rows bl sel seed h i e1 He1 w2 (HT.out.go HJ2.out.be) (HA.out.go HJ2.out.be) (HB.out.go HJ2.out.be) (HE.out.go HJ2.out.be) Hn.out.1 Hn.out.2.1 Hn.out.2.2 Hml.out.1 Hml.out.2.1 (by omega) hp hRs.out Hbs.out hsd).mono ?_
    rintro e w5 ⟨⟨ap, am, ar, aC, anc, acc, aS, ans, acs, ahid, abld, asi, aSA, ana, aca, aSB, anb, acb⟩, com, ms, ch, p, rfl, _, hok, hC5⟩
    have hJ5 := HJ2.out.go hC5
    clear k0 k1 k2 k3 k4
    dsimp only [DF.cells]
    by_cases he : e1 = 0
    · subst he
      obtain ⟨his, hdr⟩ := hok rfl
      obtain rfl : person = ap := his.person_.symm
      obtain rfl : month = am := his.month_.symm
      obtain rfl : root = ar := his.root_.symm
      obtain rfl : n = anc := (his.nc_.trans Hn.out.1).symm
      obtain rfl : ana = 18 := his.na_
      obtain rfl : p.length = anb := his.nb_.symm
      have hE0 := He1.out
      unfold showE at hE0
      have hc : validB person month rows bl root = true ∧ selB sel (rows.length : Int) = true ∧ signB seed h i = true := by
        by_cases hc : validB person month rows bl root = true ∧ selB sel (rows.length : Int) = true ∧ signB seed h i = true
        · exact hc
        · rw [if_neg hc] at hE0; cases hE0
      obtain ⟨_, ⟨hn1, hn2, _⟩, hkk, _⟩ := validB_out hc.1
      have hselA : ∀ k, k < sel.length → selAt sel (n : Int) k := by
        have := of_decide_eq_true hc.2.1
        rw [Hn.out.1] at this
        exact this
      obtain ⟨hW, hml, hmk⟩ := whole_show Hn.out.1 (by omega) hselA his.ms_
      obtain rfl : ns = ans := (his.ns_.trans Hn.out.2.2).symm
      obtain ⟨hs, hhs⟩ : ∃ hs, hidL sel n = hs := ⟨_, rfl⟩
      have hhid : ahid = sumH (rows.map (·.c)) (hidL sel rows.length) rows.length := his.hid_
      have hbld : abld = sumH bl (hidL sel rows.length) rows.length % 1073741789 := his.bld_
      rw [Hn.out.1, hhs] at hhid hbld
      have hcb : ∀ j, j < n → (-500000000 ≤ (rows.map (·.c)).getD j 0 ∧ (rows.map (·.c)).getD j 0 ≤ 500000000) ∧ 0 ≤ bl.getD j 0 ∧ bl.getD j 0 < 1073741789 := by
        intro j hj
        have := hkk j (by rw [Hn.out.1]; exact hj)
        have e : (rows.map (·.c)).getD j 0 = (rows.getD j default).c := by simp [List.getD, show j < rows.length by rw [Hn.out.1]; exact hj]
        rw [e]; exact this
      have hcm : ∀ j, j < n → com.getD j 0 = commitI ((rows.map (·.c)).getD j 0 % 1073741789) (bl.getD j 0) := by
        intro j hj
        have e : (rows.map (·.c)).getD j 0 = (rows.getD j default).c := by simp [List.getD, show j < rows.length by rw [Hn.out.1]; exact hj]
        rw [his.com_, Hn.out.1, e]
        have : (comL rows bl n).getD j 0 = comI ((rows.getD j default).c % 1073741789) (bl.getD j 0) := by simp [comL, List.getD, hj]
        rw [this]
        unfold comI
        rw [if_pos (hcb j hj).2]
      have hps := prod_sum (rows.map (·.c)) bl com hs n (fun j hj => (hcb j hj).2) hcm
      have hhb : -500000000 ≤ ahid ∧ ahid ≤ 500000000 := by
        rw [if_pos hc, Hn.out.1, hhs] at hE0
        rw [hhid]
        by_cases hr : -500000000 ≤ sumH (rows.map (·.c)) hs n ∧ sumH (rows.map (·.c)) hs n ≤ 500000000
        · exact hr
        · rw [if_neg hr] at hE0; cases hE0
      have hcl : com.length = n := by rw [his.com_, comL_len]; exact Hn.out.1
      have hsH : ∀ j, j < n → hs.getD j false = !decide ((j : Int) ∈ sel) := by
        intro j hj
        rw [← hhs]
        simp [hidL, List.getD, hj, hidAt]
      have HW := Lib.hid (And.intro hW (And.intro hml hmk))
      have Hsel := Lib.hid hselA
      have Hps := Lib.hid hps
      have Hhid := Lib.hid (And.intro hhid hbld)
      have Hcb := Lib.hid hcb
      have Hcm := Lib.hid hcm
      have Hhb := Lib.hid hhb
      have HsH := Lib.hid hsH
      have Hcl := Lib.hid hcl
      have HDR := Lib.hid hdr
      clear hok his hdr hc hE0 hkk hselA hW hml hmk hps hhid hbld hcb hcm hhb hsH hcl hC5 hhs hn1 hn2
      go_upto_region 5 with fail
      obtain ⟨w6, hw6⟩ : ∃ Q : World, Q = w5.alloc (.cells #[.string person, .int .i64 month, .int .u64 root.toNat, .slice aC n acc, .slice aS ns acs, .int .i64 ahid, .int .i64 abld, .int .i64 asi, .slice aSA 18 aca, .slice aSB p.length acb] 38) := ⟨_, rfl⟩
      obtain ⟨T, hT'⟩ : ∃ T, T = w5.heap.size := ⟨_, rfl⟩
      obtain ⟨bs, hbs'⟩ : ∃ b, b = w2.heap.size := ⟨_, rfl⟩
      have hL6 : LawAt w #[.string person, .int .i64 month, .slice A n ca, .slice B m cb, .int .u64 root.toNat] T bs #[.string person, .int .i64 month, .int .u64 root.toNat, .slice aC n acc, .slice aS ns acs, .int .i64 ahid, .int .i64 abld, .int .i64 asi, .slice aSA 18 aca, .slice aSB p.length acb] ⟨person, month, root, aC, n, acc, aS, ns, acs, ahid, abld, asi, aSA, 18, aca, aSB, p.length, acb⟩ com ms ch p w6 := by
        rw [hw6, hT', hbs']
        exact ⟨hJ5.go (bal (Below.refl _ _) _), World.alloc_heap_new _ _, HDR.out.go (bal (Below.refl _ _) _)⟩
      rw [← hw6, ← hT']
      have HL6 := Lib.hid hL6
      clear hL6 hw6 hT' hbs' hJ5 HDR HJ2
      clear w5
      clear w2
      have t0 : w6.cell? ⟨T, 0, none⟩ = some (.string person) := by rw [Lib.cell_of_heap HL6.out.d]; rfl
      have t1 : w6.cell? ⟨T, 1, none⟩ = some (.int .i64 month) := by rw [Lib.cell_of_heap HL6.out.d]; rfl
      have t2 : w6.cell? ⟨T, 2, none⟩ = some (.int .u64 root.toNat) := by rw [Lib.cell_of_heap HL6.out.d]; rfl
      have t3 : w6.cell? ⟨T, 3, none⟩ = some (.slice aC n acc) := by rw [Lib.cell_of_heap HL6.out.d]; rfl
      have t4 : w6.cell? ⟨T, 4, none⟩ = some (.slice aS ns acs) := by rw [Lib.cell_of_heap HL6.out.d]; rfl
      have t5 : w6.cell? ⟨T, 5, none⟩ = some (.int .i64 ahid) := by rw [Lib.cell_of_heap HL6.out.d]; rfl
      have t6 : w6.cell? ⟨T, 6, none⟩ = some (.int .i64 abld) := by rw [Lib.cell_of_heap HL6.out.d]; rfl
      have t7 : w6.cell? ⟨T, 7, none⟩ = some (.int .i64 asi) := by rw [Lib.cell_of_heap HL6.out.d]; rfl
      have t8 : w6.cell? ⟨T, 8, none⟩ = some (.slice aSA 18 aca) := by rw [Lib.cell_of_heap HL6.out.d]; rfl
      have t9 : w6.cell? ⟨T, 9, none⟩ = some (.slice aSB p.length acb) := by rw [Lib.cell_of_heap HL6.out.d]; rfl
      have x2 : w6.cell? ⟨w.heap.size, 2, none⟩ = some (.slice A n ca) := by rw [Lib.cell_of_heap HL6.out.x.b]; rfl
      go_wp2_with fail
      refine (whole_ok ⟨person, month, root, aC, n, acc, aS, ns, acs, ahid, abld, asi, aSA, 18, aca, aSB, p.length, acb⟩ n bs com ms ch p w6 HL6.out.r rfl (by rw [HW.out.2.1]; exact Hn.out.2.2.symm) (by have := HW.out.2.1; have := sel_le Hsel.out; omega) (by omega) HW.out.1).mono ?_
      rintro e w7 ⟨rfl, hB7⟩
      have hL7 := HL6.out.go hB7
      have HL7 := Lib.hid hL7
      have t5' : w7.cell? ⟨T, 5, none⟩ = some (.int .i64 ahid) := by rw [Lib.cell_of_heap hL7.d]; rfl
      have x2' : w7.cell? ⟨w.heap.size, 2, none⟩ = some (.slice A n ca) := by rw [Lib.cell_of_heap hL7.x.b]; rfl
      clear t0 t1 t2 t3 t4 t5 t6 t7 t8 t9 x2 hL7 hB7 HL6
      go_wp2_with fail
      clear t5' x2'
      go_loopw [14, 15, 16, 17] (fun lf pr nx ix wr => ∃ k : Nat, k ≤ n ∧ ix = .int .i64 (k : Int) ∧ lf = .int .i64 (ahid - sumH (rows.map (·.c)) hs k) ∧ pr = .int .i64 (prodH com hs k) ∧ nx = .int .i64 (nxK sel k : Int) ∧ LawAt w #[.string person, .int .i64 month, .slice A n ca, .slice B m cb, .int .u64 root.toNat] T bs #[.string person, .int .i64 month, .int .u64 root.toNat, .slice aC n acc, .slice aS ns acs, .int .i64 ahid, .int .i64 abld, .int .i64 asi, .slice aSA 18 aca, .slice aSB p.length acb] ⟨person, month, root, aC, n, acc, aS, ns, acs, ahid, abld, asi, aSA, 18, aca, aSB, p.length, acb⟩ com ms ch p wr) (fun _ _ _ ix _ => n - (intOf ix).toNat)
      case atStart => exact ⟨0, Nat.zero_le _, rfl, by simp [sumH], rfl, by rw [nx_zero Hsel.out]; rfl, HL7.out⟩
      case round =>
        clear HL7
        obtain ⟨k, hk, rfl, rfl, rfl, rfl, hL⟩ := hrel
        have HL := Lib.hid hL
        have hBw := hL.x.be
        have x2 : wr.cell? ⟨w.heap.size, 2, none⟩ = some (.slice A n ca) := by rw [Lib.cell_of_heap hL.x.b]; rfl
        have t3 : wr.cell? ⟨T, 3, none⟩ = some (.slice aC n acc) := by rw [Lib.cell_of_heap hL.d]; rfl
        have t4 : wr.cell? ⟨T, 4, none⟩ = some (.slice aS ns acs) := by rw [Lib.cell_of_heap hL.d]; rfl
        by_cases hlt : k < n
        · have hlt' : (k : Int) < (n : Int) := by omega
          obtain ⟨b1, o1, rfl, hb1, hc1⟩ := HA.out.2 (by omega)
          have hkl : k < rows.length := by rw [Hn.out.1]; exact hlt
          have hget := flat_get rowV 3 (fun _ => rfl) rows k hkl
          have hrg : rows.getD k default = rows[k] := by simp [List.getD, hkl]
          have hcg : (rows.map (·.c)).getD k 0 = rows[k].c := by simp [List.getD, hkl]
          obtain ⟨x, hx⟩ : ∃ x, rows[k] = x := ⟨_, rfl⟩
          rw [hx] at hget hrg hcg
          obtain ⟨hcb1, hcb2⟩ := Hcb.out k hlt
          rw [hcg] at hcb1
          have y1 : wr.cell? ⟨b1, o1 + k * 3 + 1, none⟩ = some (.int .i64 x.c) := (hBw.cell (p := ⟨b1, o1 + k * 3 + 1, none⟩) hb1).trans (hc1 _ _ (hget 1 (by decide)))
          have hsb := sumH_bd (rows.map (·.c)) hs 500000000 (by omega) (fun c hc => by
            obtain ⟨j, hj, rfl⟩ := List.getElem_of_mem hc
            have hjn : j < n := by rw [← Hn.out.1]; simpa using hj
            have := (Hcb.out j hjn).1
            have e : (rows.map (·.c)).getD j 0 = (rows.map (·.c))[j] := by simp [List.getD, show j < rows.length by rw [Hn.out.1]; exact hjn]
            rw [e] at this; exact this) k
          have hss := sumH_snoc (rows.map (·.c)) hs k
          have hpp : prodH com hs (k + 1) = if hs.getD k false = true then prodH com hs k * com.getD k 0 % 2147483579 else prodH com hs k := rfl
          have hel := (Hps.out k (by omega)).2
          rw [HsH.out k hlt] at hss hpp
          rw [hcg] at hss
          obtain ⟨n1, n2⟩ := nx_step Hsel.out k
          obtain ⟨s, hs'⟩ : ∃ s, sumH (rows.map (·.c)) hs k = s := ⟨_, rfl⟩
          obtain ⟨pr, hpr⟩ : ∃ s, prodH com hs k = s := ⟨_, rfl⟩
          obtain ⟨q, hq⟩ : ∃ s, nxK sel k = s := ⟨_, rfl⟩
          rw [hs'] at hsb hss ⊢
          rw [hpr] at hpp hel ⊢
          rw [hq] at n1 n2 ⊢
          have hhb := Hhb.out
          have hkb : (k : Int) * 500000000 ≤ 24 * 500000000 := by omega
          obtain ⟨l, hl⟩ : ∃ l, ahid - s = l := ⟨_, rfl⟩
          have hlb : -13000000000 ≤ l ∧ l ≤ 13000000000 := by omega
          have hw1 : IntKind.i64.wrap (l - x.c) = l - x.c := IntWalk.i64_in _ (by omega)
          have Hl := Lib.hid hl
          have W1 : Hid (wrap64 (ahid - s - x.c) = ahid - s - x.c) := Lib.hid (IntWalk.wrap64_in _ (by omega))
          have W2 : Hid (wrap64 (ahid - s - x.c + x.c) = ahid - s) := Lib.hid (by rw [IntWalk.wrap64_in _ (by omega)]; omega)
          by_cases hmem : (k : Int) ∈ sel
          · obtain ⟨a1, a2, a3⟩ := n1 hmem
            rw [decide_eq_true hmem] at hss hpp
            simp only [Bool.not_true, Bool.false_eq_true, if_false, Int.add_zero] at hss hpp
            have hqm : q < ms.length := by rw [HW.out.2.1]; exact a1
            obtain ⟨v1, v2⟩ := HW.out.2.2 q hqm
            rw [a2] at v1 v2
            rw [Int.toNat_natCast, hrg] at v2
            obtain ⟨g, gof, heS, hg, hcS⟩ : ∃ g gof, aS = some ⟨g, gof, none⟩ ∧ g < wr.heap.size ∧ ∀ j u, (shmsV ms)[j]? = some u → wr.cell? ⟨g, gof + j, none⟩ = some u := by
              obtain ⟨S', sc', hS', hSl⟩ := own_slice hL.r.s
              have eS : aS = S' := by injection hS'
              subst eS
              exact hSl.2 (show 0 < ns by have := Hn.out.2.2; omega)
            subst heS
            have u0 : wr.cell? ⟨g, gof + q * 6, none⟩ = some (.int .i64 (k : Int)) := by rw [← v1]; exact hcS _ _ (shm_get ms q hqm 0 (by decide))
            have u2 : wr.cell? ⟨g, gof + q * 6 + 2, none⟩ = some (.int .i64 x.c) := by
              have := hcS _ _ (shm_get ms q hqm 2 (by decide))
              rw [← v2]; exact this
            have hw2 : IntKind.i64.wrap (l - x.c + x.c) = l := by rw [Int.sub_add_cancel]; exact IntWalk.i64_in _ (by omega)
            have hq1 : (q : Int) < (ns : Int) := by have := Hn.out.2.2; omega
            have Hnx := Lib.hid (And.intro hss (And.intro hpp a3))
            have hsub : l - x.c + x.c = l := by omega
            clear hL hss hpp n1 n2 a1 a2 a3 v1 v2 hcS hmem hget hrg hcg hx hkl hc1 hel hs' hpr hq hl hhb hkb hsb hcb2
            go_wp2_with fail
            go_roundw
            case rel => exact ⟨k + 1, by omega, by go_num, by (rw [Hnx.out.1]; first | (rw [W1.out, W2.out]; done) | (rw [W1.out, W2.out]; rfl) | (rw [W2.out]; done) | (simp only [W1.out, W2.out]; done) | (trace_state; fail)), by rw [Hnx.out.2.1], by rw [Hnx.out.2.2]; (try go_num), HL.out⟩
            case measure => simp [intOf]; omega
          · obtain ⟨a1, a3⟩ := n2 hmem
            rw [decide_eq_false hmem] at hss hpp
            simp only [Bool.not_false, if_true] at hss hpp
            obtain ⟨g2, gof2, heC, hg2, hcC⟩ : ∃ g gof, aC = some ⟨g, gof, none⟩ ∧ g < wr.heap.size ∧ ∀ j u, (intV com)[j]? = some u → wr.cell? ⟨g, gof + j, none⟩ = some u := by
              obtain ⟨S', sc', hS', hSl⟩ := own_slice hL.r.c
              have eS : aC = S' := by injection hS'
              subst eS
              exact hSl.2 (show 0 < n by omega)
            subst heC
            have hck : wr.cell? ⟨g2, gof2 + k, none⟩ = some (.int .i64 (com.getD k 0)) := hcC _ _ (intV_get com k (by rw [Hcl.out]; exact hlt))
            have hce : elB (com.getD k 0) = true := by
              rw [Hcm.out k hlt]
              obtain ⟨v', hv'⟩ : ∃ v : Nat, (rows.map (·.c)).getD k 0 % 1073741789 = v := ⟨((rows.map (·.c)).getD k 0 % 1073741789).toNat, by omega⟩
              obtain ⟨b', hbk⟩ : ∃ v : Nat, bl.getD k 0 = v := ⟨(bl.getD k 0).toNat, by omega⟩
              rw [hv', hbk]
              exact commit_el _ _
            obtain ⟨cx, hcx⟩ : ∃ c, com.getD k 0 = c := ⟨_, rfl⟩
            rw [hcx] at hck hce hpp
            have Hnx := Lib.hid (And.intro hss (And.intro hpp a3))
            have Hel := Lib.hid (And.intro hel hce)
            have hHel1 := Lib.hid hel
            have hHel2 := Lib.hid hce
            have hmn : ms.length = ns := by rw [HW.out.2.1]; exact Hn.out.2.2
            by_cases hqn : q < sel.length
            · have hne := a1 hqn
              have hqm : q < ms.length := by rw [HW.out.2.1]; exact hqn
              obtain ⟨v1, _⟩ := HW.out.2.2 q hqm
              obtain ⟨g, gof, heS, hg, hcS⟩ : ∃ g gof, aS = some ⟨g, gof, none⟩ ∧ g < wr.heap.size ∧ ∀ j u, (shmsV ms)[j]? = some u → wr.cell? ⟨g, gof + j, none⟩ = some u := by
                obtain ⟨S', sc', hS', hSl⟩ := own_slice hL.r.s
                have eS : aS = S' := by injection hS'
                subst eS
                exact hSl.2 (show 0 < ns by omega)
              subst heS
              have u0 : wr.cell? ⟨g, gof + q * 6, none⟩ = some (.int .i64 (sel.getD q 0)) := by rw [← v1]; exact hcS _ _ (shm_get ms q hqm 0 (by decide))
              obtain ⟨z, hz⟩ : ∃ z, sel.getD q 0 = z := ⟨_, rfl⟩
              rw [hz] at u0 hne
              have hne' : (z == (k : Int)) = false := beq_eq_false_iff_ne.2 hne
              have hq1 : (q : Int) < (ns : Int) := by omega
              clear hL hss hpp n1 n2 a1 a3 v1 hcS hmem hget hrg hcg hx hkl hc1 hel hs' hpr hq hl hhb hkb hsb hcb2 hz hne hcx hce hcC
              go_wp2_with fail
              refine (add_ok pr cx hHel1 hHel2 wr).mono ?_
              rintro e w9 ⟨rfl, hB9⟩
              have hL9 := HL.out.go hB9
              have HL9 := Lib.hid hL9
              clear hL9 hB9 x2 t3 t4 y1 u0 hck
              go_wp2_with fail
              go_roundw
              case rel => exact ⟨k + 1, by omega, by go_num, by (rw [Hnx.out.1, W1.out]; congr 1; omega), by rw [Hnx.out.2.1], by rw [Hnx.out.2.2], HL9.out⟩
              case measure => simp [intOf]; omega
            · have hq1 : ¬ (q : Int) < (ns : Int) := by have := Hn.out.2.2; omega
              clear hL hss hpp n1 n2 a1 a3 hmem hget hrg hcg hx hkl hc1 hel hs' hpr hq hl hhb hkb hsb hcb2 hcx hce hcC
              go_wp2_with fail
              refine (add_ok pr cx hHel1 hHel2 wr).mono ?_
              rintro e w9 ⟨rfl, hB9⟩
              have hL9 := HL.out.go hB9
              have HL9 := Lib.hid hL9
              clear hL9 hB9 x2 t3 t4 y1 hck
              go_wp2_with fail
              go_roundw
              case rel => exact ⟨k + 1, by omega, by go_num, by (rw [Hnx.out.1, W1.out]; congr 1; omega), by rw [Hnx.out.2.1], by rw [Hnx.out.2.2], HL9.out⟩
              case measure => simp [intOf]; omega
        · obtain rfl : n = k := by omega
          have hz : ahid - sumH (rows.map (·.c)) hs n = 0 := by rw [← Hhid.out.1]; omega
          have hpf := (Hps.out n (Nat.le_refl _)).1
          rw [← Hhid.out.1, ← Hhid.out.2] at hpf
          have hhb := Hhb.out
          obtain ⟨hv, hhv⟩ : ∃ v, ahid % 1073741789 = v := ⟨_, rfl⟩
          have hh1 : ahid.tmod 1073741789 = ahid := by
            rcases (show 0 ≤ ahid ∨ ahid < 0 by omega) with h | h
            · exact Int.tmod_eq_of_lt h (by omega)
            · obtain ⟨q, hq⟩ : ∃ q : Nat, ahid = -(q : Int) := ⟨(-ahid).toNat, by omega⟩
              rw [hq, Int.neg_tmod, Int.tmod_eq_of_lt (by omega) (by omega)]
          have hh2 : IntKind.i64.wrap (ahid + 1073741789) = ahid + 1073741789 := IntWalk.i64_in _ (by omega)
          have hh3 : (ahid + 1073741789).tmod 1073741789 = hv := by
            rw [Int.tmod_eq_emod_of_nonneg (by omega)]; omega
          rw [hhv] at hpf
          have hv0 : 0 ≤ hv ∧ hv < 1073741789 := by omega
          have hb0 : 0 ≤ abld ∧ abld < 1073741789 := by rw [Hhid.out.2]; omega
          rw [hz, hpf]
          obtain ⟨pc, hpc⟩ : ∃ c, commitI hv abld = c := ⟨_, rfl⟩
          have Hpc : Hid ((commitI hv abld == pc) = true) := Lib.hid (by rw [hpc]; simp)
          rw [hpc]
          have t5 : wr.cell? ⟨T, 5, none⟩ = some (.int .i64 ahid) := by rw [Lib.cell_of_heap hL.d]; rfl
          have t6 : wr.cell? ⟨T, 6, none⟩ = some (.int .i64 abld) := by rw [Lib.cell_of_heap hL.d]; rfl
          clear hz hpf hhv hpc hL hhb
          go_wp2_with fail
          refine (open_ok pc hv abld true Hpc wr (HT.out.go HL.out.x.be).1.2 hv0.1 hv0.2 hb0.1 hb0.2).mono ?_
          rintro e w9 ⟨rfl, hB9⟩
          have hbe := (HL.out.go hB9).x.be
          go_wp2_with fail
          go_ret
          exact ⟨rfl, hbe⟩
    · clear hok
      go_upto_region 5 with fail
      have hbe := hJ5.be
      have hne : (e1 != 0) = true := bne_iff_ne.2 he
      go_wp2_with fail
      go_ret
      exact ⟨rfl, bal hbe _⟩
end Go.Proofs.YtipnbcggimpdeaaDoor
