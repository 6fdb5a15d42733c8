/- The walk of DiscloseShown. -/
import Derived.Test.YtipnbcggimpdeaaDoorQDsLawI
namespace Go.Proofs.YtipnbcggimpdeaaDoor
open Go.RowKit Go.Shelf
set_option linter.unusedVariables false
set_option linter.unusedSimpArgs false
set_option maxRecDepth 100000
/-- What a round of the law reads. -/
structure RndAt (w : World) (cs : Array Value) (T base : Nat) (f : Array Value) (F : DF) (com : List Int) (ms : List ShM) (ch : List UInt64) (p : Forks) (X g2 c2 b3 s3 b1 r1 : Nat) (xc : Array Value) (cq : Int) (q : Nat) (rl : ByteArray) (rc : Int) (rr : ByteArray) (W : World) : Prop where
  l : LawAt w cs T base f F com ms ch p W
  x : W.heap[X]? = some (.cells xc 45 (0, 0))
  c : W.cell? ⟨g2, c2, none⟩ = some (.int .i64 cq) ∧ g2 < W.heap.size
  s : W.cell? ⟨b3, s3, none⟩ = some (.int .i64 (q : Int)) ∧ b3 < W.heap.size
  r : (W.cell? ⟨b1, r1, none⟩ = some (.string rl) ∧ W.cell? ⟨b1, r1 + 1, none⟩ = some (.int .i64 rc) ∧ W.cell? ⟨b1, r1 + 2, none⟩ = some (.string rr)) ∧ b1 < W.heap.size
theorem RndAt.go {w : World} {cs : Array Value} {T base : Nat} {f : Array Value} {F : DF} {com : List Int} {ms : List ShM} {ch : List UInt64} {p : Forks} {X g2 c2 b3 s3 b1 r1 : Nat} {xc : Array Value} {cq : Int} {q : Nat} {rl : ByteArray} {rc : Int} {rr : ByteArray} {W W' : World}
    (h : RndAt w cs T base f F com ms ch p X g2 c2 b3 s3 b1 r1 xc cq q rl rc rr W) (k : Below W.heap.size W W') : RndAt w cs T base f F com ms ch p X g2 c2 b3 s3 b1 r1 xc cq q rl rc rr W' :=
  ⟨h.l.go k, (k.block _ (Array.getElem?_eq_some_iff.1 h.x).1).trans h.x, ⟨(k.cell (p := ⟨g2, c2, none⟩) h.c.2).trans h.c.1, Nat.lt_of_lt_of_le h.c.2 k.size⟩, ⟨(k.cell (p := ⟨b3, s3, none⟩) h.s.2).trans h.s.1, Nat.lt_of_lt_of_le h.s.2 k.size⟩,
    ⟨⟨(k.cell (p := ⟨b1, r1, none⟩) h.r.2).trans h.r.1.1, (k.cell (p := ⟨b1, r1 + 1, none⟩) h.r.2).trans h.r.1.2.1, (k.cell (p := ⟨b1, r1 + 2, none⟩) h.r.2).trans h.r.1.2.2⟩, Nat.lt_of_lt_of_le h.r.2 k.size⟩⟩
theorem vf_at {ss : List ByteArray} {q : Nat} {t : ByteArray} (h2 : ss.length ≤ 1024) (ht : ss[q]? = some t) : verifyB (rootV ss) (ss.length : Int) (q : Int) t (pathL ss (q : Int)) = true := by
  obtain ⟨hq, rfl⟩ := List.getElem?_eq_some_iff.1 ht
  exact paths_verify ss q h2 hq
theorem value_any (c v : Int) (hv : Hid (c % 1073741789 = v)) (hc : -500000000 ≤ c ∧ c ≤ 500000000) (w : World) : Calls Tryd.prog 21 #[.int .i64 c] w fun e w' => e = .returned (.int .i64 v) ∧ Below w.heap.size w w' := by
  have hv' := hv.out
  obtain ⟨h1, h2⟩ := hc
  by_cases h0 : 0 ≤ c
  · have e1 : c.tmod 1073741789 = v := by rw [Int.tmod_eq_emod_of_nonneg h0]; exact hv'
    have e2 : c % 1073741789 = v := hv'
    have h3 : ¬ v < 0 := by omega
    clear hv hv'
    go_enter Tryd.func21, Tryd.ntmps21
    go_wp2
    go_ret
    exact ⟨by first | rfl | (simp [e1, e2]), Below.refl _ _⟩
  · have e1 : c.tmod 1073741789 = c := by
      obtain ⟨q, hq⟩ : ∃ q : Nat, c = -(q : Int) := ⟨(-c).toNat, by omega⟩
      rw [hq, Int.neg_tmod, Int.tmod_eq_of_lt (by omega) (by omega)]
    have h3 : c < 0 := by omega
    have e2 : c + 1073741789 = v := by omega
    have e3 : IntKind.i64.wrap (c + 1073741789) = v := by rw [IntWalk.i64_in _ (by omega)]; exact e2
    clear hv hv' h0
    go_enter Tryd.func21, Tryd.ntmps21
    go_wp2
    go_ret
    exact ⟨by first | rfl | (simp [e2, e3]), Below.refl _ _⟩
set_option maxHeartbeats 8000000 in
theorem discloseShown_walk (q : ShtM) (E : Option Addr) (ce : Nat) (sel : List Int) (seed : ByteArray) (h i : Int) (w : World) (hS : ShtOk w q) (hE : Sl w w.heap.size 1 E sel.length (intV sel)) (hle : sel.length ≤ ce ∧ ce ≤ maxLen) (hse : ∀ x ∈ sel, I64 x) (hsd : seed.size ≤ maxLen) (wh : (Lit.int .i64 h).wf = true) (wi : (Lit.int .i64 i).wf = true) (hT : Tabs w) :
    Calls Tryd.prog 7 #[shtV q, .slice E sel.length ce, .string seed, .int .i64 h, .int .i64 i] w fun e w' => e = .returned (.bool true) ∧ Below w.heap.size w w' := by
  obtain ⟨person, month, A, ca, rows, B, cb, bl, root⟩ := q
  obtain ⟨hp, hm, hA, hB, hla, hlb, hrs, hbs⟩ := hS
  dsimp only at hp hm hA hB hla hlb hrs hbs
  obtain ⟨n, hn⟩ : ∃ n, rows.length = n := ⟨_, rfl⟩
  obtain ⟨m, hm'⟩ : ∃ n, bl.length = n := ⟨_, rfl⟩
  obtain ⟨ns, hns⟩ : ∃ n, sel.length = n := ⟨_, rfl⟩
  rw [hn] at hA hla
  rw [hm'] at hB hlb
  rw [hns] at hE hle
  show Calls _ _ #[.agg #[.string person, .int .i64 month, .slice A rows.length ca, .slice B bl.length cb, .int .u64 root.toNat], .slice E sel.length ce, .string seed, .int .i64 h, .int .i64 i] _ _
  rw [hn, hm', hns]
  obtain ⟨e1, he1⟩ : ∃ e, showE person month root rows bl sel seed h i = e := ⟨_, rfl⟩
  obtain ⟨v, hv⟩ : ∃ v, lightB person n m rows ns seed h = v := ⟨_, rfl⟩
  have Hv := Lib.hid hv
  have He1 := Lib.hid he1
  have HA := Lib.hid hA
  have HB := Lib.hid hB
  have HE := Lib.hid hE
  have Hn := Lib.hid (And.intro hn (And.intro hm' hns))
  have HT := Lib.hid hT
  have Hrs := Lib.hid hrs
  have Hbs := Lib.hid hbs
  have Hml : Hid (n ≤ maxLen ∧ m ≤ maxLen ∧ ns ≤ maxLen) := Lib.hid ⟨by omega, by omega, by omega⟩
  have HmI := Lib.hid hm
  clear hA hB hn hm' he1 hv hT hrs hbs hla hlb wh wi hE hle hse hns hm
  go_enter Tryd.func7, Tryd.ntmps7
  go_wp2_with fail
  have hJ := BoxAt.start w #[.string person, .int .i64 month, .slice A n ca, .slice B m cb, .int .u64 root.toNat]
  obtain ⟨V, hV⟩ : ∃ Q : World, Q = w.alloc (.cells #[.string person, .int .i64 month, .slice A n ca, .slice B m cb, .int .u64 root.toNat] 27) := ⟨_, rfl⟩
  rw [← hV] at hJ ⊢
  clear hV
  refine (head36_any V (HT.out.go hJ.be)).mono ?_
  rintro e w1 ⟨rfl, hB1⟩
  have hJ1 := hJ.go hB1
  have k0 : w1.cell? ⟨w.heap.size, 0, none⟩ = some (.string person) := by rw [Lib.cell_of_heap hJ1.b]; rfl
  have k1 : w1.cell? ⟨w.heap.size, 1, none⟩ = some (.int .i64 month) := by rw [Lib.cell_of_heap hJ1.b]; rfl
  have k2 : w1.cell? ⟨w.heap.size, 2, none⟩ = some (.slice A n ca) := by rw [Lib.cell_of_heap hJ1.b]; rfl
  have k3 : w1.cell? ⟨w.heap.size, 3, none⟩ = some (.slice B m cb) := by rw [Lib.cell_of_heap hJ1.b]; rfl
  have k4 : w1.cell? ⟨w.heap.size, 4, none⟩ = some (.int .u64 root.toNat) := by rw [Lib.cell_of_heap hJ1.b]; rfl
  have HJ1 := Lib.hid hJ1
  have hA1 := HA.out.go hJ1.be
  have HA1 := Lib.hid hA1
  clear hB1 hJ hJ1 hA1
  clear V
  go_wp2_with fail
  refine (light36_any person month root A B E ca cb ce n m ns rows seed h v Hn.out.1 Hv Hml.out.1 Hml.out.2.1 Hml.out.2.2 hp hsd w1 HA1.out (fun x hx => ⟨(Hrs.out x hx).1, (Hrs.out x hx).2.1⟩)).mono ?_
  rintro e w2 ⟨rfl, hB2⟩
  have hJ2 := HJ1.out.go hB2
  have HJ2 := Lib.hid hJ2
  clear k0 k1 k2 k3 k4 hB2 hJ2 HJ1 HA1
  clear w1
  cases v with
  | false =>
    have hbe := HJ2.out.be
    go_wp2_with fail
    go_ret
    exact ⟨rfl, hbe⟩
  | true =>
    have hl := Hv.out
    unfold lightB smallB at hl
    simp only [Bool.and_eq_true, decide_eq_true_eq] at hl
    obtain ⟨⟨⟨hn24, hm33, hp40⟩, hall⟩, hns40, hsd80, _⟩ := hl
    have hRs : Hid (∀ x ∈ rows, x.l.size ≤ 70368744177000 ∧ x.r.size ≤ 70368744177000 ∧ I64 x.c) := Lib.hid (fun x hx => by
      have h1 := of_decide_eq_true (List.all_eq_true.1 hall x hx)
      exact ⟨by omega, by omega, (Hrs.out x hx).2.2⟩)
    clear hall
    have k0 : w2.cell? ⟨w.heap.size, 0, none⟩ = some (.string person) := by rw [Lib.cell_of_heap HJ2.out.b]; rfl
    have k1 : w2.cell? ⟨w.heap.size, 1, none⟩ = some (.int .i64 month) := by rw [Lib.cell_of_heap HJ2.out.b]; rfl
    have k2 : w2.cell? ⟨w.heap.size, 2, none⟩ = some (.slice A n ca) := by rw [Lib.cell_of_heap HJ2.out.b]; rfl
    have k3 : w2.cell? ⟨w.heap.size, 3, none⟩ = some (.slice B m cb) := by rw [Lib.cell_of_heap HJ2.out.b]; rfl
    have k4 : w2.cell? ⟨w.heap.size, 4, none⟩ = some (.int .u64 root.toNat) := by rw [Lib.cell_of_heap HJ2.out.b]; rfl
    go_wp2_with fail
    refine (show_any person month root A B E ca cb ce n m ns rows bl sel seed h i e1 He1 w2 (HT.out.go HJ2.out.be) (HA.out.go HJ2.out.be) (HB.out.go HJ2.out.be) (HE.out.go HJ2.out.be) Hn.out.1 Hn.out.2.1 Hn.out.2.2 Hml.out.1 Hml.out.2.1 (by omega) hp hRs.out Hbs.out hsd).mono ?_
    rintro e w5 ⟨⟨ap, am, ar, aC, anc, acc, aS, ans, acs, ahid, abld, asi, aSA, ana, aca, aSB, anb, acb⟩, com, ms, ch, p, rfl, hnone, hok, hC5⟩
    have hJ5 := HJ2.out.go hC5
    clear k0 k1 k2 k3 k4
    dsimp only [DF.cells]
    by_cases he : e1 = 0
    · subst he
      obtain ⟨his, hdr⟩ := hok rfl
      obtain rfl : person = ap := his.person_.symm
      obtain rfl : month = am := his.month_.symm
      obtain rfl : root = ar := his.root_.symm
      obtain rfl : n = anc := (his.nc_.trans Hn.out.1).symm
      obtain rfl : ana = 18 := his.na_
      obtain rfl : p.length = anb := his.nb_.symm
      have hE0 := He1.out
      unfold showE at hE0
      have hc : validB person month rows bl root = true ∧ selB sel (rows.length : Int) = true ∧ signB seed h i = true := by
        by_cases hc : validB person month rows bl root = true ∧ selB sel (rows.length : Int) = true ∧ signB seed h i = true
        · exact hc
        · rw [if_neg hc] at hE0; cases hE0
      obtain ⟨_, ⟨hn1, hn2, _⟩, hkk, hroot⟩ := validB_out hc.1
      have hselA : ∀ k, k < sel.length → selAt sel (n : Int) k := by
        have := of_decide_eq_true hc.2.1
        rw [Hn.out.1] at this
        exact this
      obtain ⟨hW, hml, hmk⟩ := whole_show Hn.out.1 (by omega) hselA his.ms_
      have hmkey := his.ms_
      obtain rfl : ns = ans := (his.ns_.trans Hn.out.2.2).symm
      have hcl : com.length = n := by rw [his.com_, comL_len]; exact Hn.out.1
      have hcomq : ∀ q, q < n → com.getD q 0 = commitI ((rows.getD q default).c % 1073741789) (bl.getD q 0) := by
        intro q hq
        rw [his.com_, Hn.out.1]
        have : (comL rows bl n).getD q 0 = comI ((rows.getD q default).c % 1073741789) (bl.getD q 0) := by simp [comL, List.getD, hq]
        rw [this]
        unfold comI
        rw [if_pos (hkk q (by rw [Hn.out.1]; exact hq)).2]
      have hvf : ∀ q, q < n → verifyB root (n : Int) (q : Int) (leafB (rows.getD q default).l (com.getD q 0) (rows.getD q default).r) (pathL (leafK rows bl rows.length) (q : Int)) = true := by
        intro q hq
        have h1 := vf_at (ss := leafK rows bl rows.length) (q := q) (t := leafB (rows.getD q default).l (com.getD q 0) (rows.getD q default).r) (by rw [leafK_len]; omega) (by
          have hqr : q < rows.length := by rw [Hn.out.1]; exact hq
          rw [hcomq q hq]
          have hb := (hkk q hqr).2
          unfold leafK
          rw [List.getElem?_map, List.getElem?_range hqr]
          simp only [Option.map_some, leafAt, comI]
          rw [if_pos hb])
        rw [hroot, leafK_len] at h1
        rw [Hn.out.1] at h1 ⊢
        exact h1
      have hmsk : ∀ k (hk : k < ms.length), ms[k].bl = bl.getD (sel.getD k 0).toNat 0 ∧ ms[k].p = pathL (leafK rows bl rows.length) (sel.getD k 0) := by
        intro k hk
        have e : (ms.map ShM.key)[k]? = (sel.map (shkAt rows bl rows.length))[k]? := by rw [hmkey]
        have hks : k < sel.length := by omega
        rw [List.getElem?_map, List.getElem?_map, List.getElem?_eq_getElem hk, List.getElem?_eq_getElem hks] at e
        simp only [Option.map_some, Option.some.injEq] at e
        have e2 : sel.getD k 0 = sel[k] := by simp [List.getD, hks]
        rw [e2]
        exact ⟨congrArg ShK.bl e, congrArg ShK.p e⟩
      have HW := Lib.hid (And.intro hW (And.intro hml (And.intro hmk hmsk)))
      have Hsel := Lib.hid hselA
      have Hkk : Hid (∀ q, q < n → (-500000000 ≤ (rows.getD q default).c ∧ (rows.getD q default).c ≤ 500000000) ∧ 0 ≤ bl.getD q 0 ∧ bl.getD q 0 < 1073741789) := Lib.hid (fun q hq => hkk q (by rw [Hn.out.1]; exact hq))
      have Hvf := Lib.hid hvf
      have Hcq := Lib.hid hcomq
      have Hcl := Lib.hid hcl
      have HDR := Lib.hid hdr
      clear hok his hdr hc hE0 hkk hselA hW hml hmk hmsk hmkey hroot hvf hcomq hcl hC5 hn1 hn2
      go_upto_region 5 with fail
      obtain ⟨w6, hw6⟩ : ∃ Q : World, Q = w5.alloc (.cells #[.string person, .int .i64 month, .int .u64 root.toNat, .slice aC n acc, .slice aS ns acs, .int .i64 ahid, .int .i64 abld, .int .i64 asi, .slice aSA 18 aca, .slice aSB p.length acb] 38) := ⟨_, rfl⟩
      obtain ⟨T, hT'⟩ : ∃ T, T = w5.heap.size := ⟨_, rfl⟩
      obtain ⟨bs, hbs'⟩ : ∃ b, b = w2.heap.size := ⟨_, rfl⟩
      have hL6 : LawAt w #[.string person, .int .i64 month, .slice A n ca, .slice B m cb, .int .u64 root.toNat] T bs #[.string person, .int .i64 month, .int .u64 root.toNat, .slice aC n acc, .slice aS ns acs, .int .i64 ahid, .int .i64 abld, .int .i64 asi, .slice aSA 18 aca, .slice aSB p.length acb] ⟨person, month, root, aC, n, acc, aS, ns, acs, ahid, abld, asi, aSA, 18, aca, aSB, p.length, acb⟩ com ms ch p w6 := by
        rw [hw6, hT', hbs']
        exact ⟨hJ5.go (bal (Below.refl _ _) _), World.alloc_heap_new _ _, HDR.out.go (bal (Below.refl _ _) _)⟩
      rw [← hw6, ← hT']
      have HL6 := Lib.hid hL6
      clear hL6 hw6 hT' hbs' hJ5 HDR HJ2
      clear w5
      clear w2
      have t0 : w6.cell? ⟨T, 0, none⟩ = some (.string person) := by rw [Lib.cell_of_heap HL6.out.d]; rfl
      have t1 : w6.cell? ⟨T, 1, none⟩ = some (.int .i64 month) := by rw [Lib.cell_of_heap HL6.out.d]; rfl
      have t2 : w6.cell? ⟨T, 2, none⟩ = some (.int .u64 root.toNat) := by rw [Lib.cell_of_heap HL6.out.d]; rfl
      have t3 : w6.cell? ⟨T, 3, none⟩ = some (.slice aC n acc) := by rw [Lib.cell_of_heap HL6.out.d]; rfl
      have t4 : w6.cell? ⟨T, 4, none⟩ = some (.slice aS ns acs) := by rw [Lib.cell_of_heap HL6.out.d]; rfl
      have t5 : w6.cell? ⟨T, 5, none⟩ = some (.int .i64 ahid) := by rw [Lib.cell_of_heap HL6.out.d]; rfl
      have t6 : w6.cell? ⟨T, 6, none⟩ = some (.int .i64 abld) := by rw [Lib.cell_of_heap HL6.out.d]; rfl
      have t7 : w6.cell? ⟨T, 7, none⟩ = some (.int .i64 asi) := by rw [Lib.cell_of_heap HL6.out.d]; rfl
      have t8 : w6.cell? ⟨T, 8, none⟩ = some (.slice aSA 18 aca) := by rw [Lib.cell_of_heap HL6.out.d]; rfl
      have t9 : w6.cell? ⟨T, 9, none⟩ = some (.slice aSB p.length acb) := by rw [Lib.cell_of_heap HL6.out.d]; rfl
      have x2 : w6.cell? ⟨w.heap.size, 2, none⟩ = some (.slice A n ca) := by rw [Lib.cell_of_heap HL6.out.x.b]; rfl
      go_wp2_with fail
      refine (whole_ok ⟨person, month, root, aC, n, acc, aS, ns, acs, ahid, abld, asi, aSA, 18, aca, aSB, p.length, acb⟩ n bs com ms ch p w6 HL6.out.r rfl (by rw [HW.out.2.1]; exact Hn.out.2.2.symm) (by have := HW.out.2.1; have := sel_le Hsel.out; omega) (by omega) HW.out.1).mono ?_
      rintro e w7 ⟨rfl, hB7⟩
      have hL7 := HL6.out.go hB7
      have HL7 := Lib.hid hL7
      have t4' : w7.cell? ⟨T, 4, none⟩ = some (.slice aS ns acs) := by rw [Lib.cell_of_heap hL7.d]; rfl
      have hnn : ((ns : Int) != (ns : Int)) = false := by simp
      clear t0 t1 t2 t3 t4 t5 t6 t7 t8 t9 x2 hL7 hB7 HL6
      go_wp2_with fail
      clear t4' hnn
      go_loopw [15] (fun ix wr => ∃ k : Nat, k ≤ ns ∧ ix = .int .i64 (k : Int) ∧ LawAt w #[.string person, .int .i64 month, .slice A n ca, .slice B m cb, .int .u64 root.toNat] T bs #[.string person, .int .i64 month, .int .u64 root.toNat, .slice aC n acc, .slice aS ns acs, .int .i64 ahid, .int .i64 abld, .int .i64 asi, .slice aSA 18 aca, .slice aSB p.length acb] ⟨person, month, root, aC, n, acc, aS, ns, acs, ahid, abld, asi, aSA, 18, aca, aSB, p.length, acb⟩ com ms ch p wr) (fun ix _ => ns - (intOf ix).toNat)
      case atStart => exact ⟨0, Nat.zero_le _, rfl, HL7.out⟩
      case round =>
        clear HL7
        obtain ⟨k, hk, rfl, hL⟩ := hrel
        by_cases hlt : k < ns
        · have hlt' : (k : Int) < (ns : Int) := by omega
          have hks : k < sel.length := by rw [Hn.out.2.2]; exact hlt
          have hkm : k < ms.length := by rw [HW.out.2.1]; exact hks
          have hsk := Hsel.out k hks
          obtain ⟨q, hq⟩ : ∃ q : Nat, sel.getD k 0 = q := ⟨(sel.getD k 0).toNat, by have := hsk.1; omega⟩
          have hqn : q < n := by have := hsk.2.1; omega
          obtain ⟨v1, v2⟩ := HW.out.2.2.1 k hkm
          obtain ⟨v3, v4⟩ := HW.out.2.2.2 k hkm
          rw [hq] at v1 v2 v3 v4
          rw [Int.toNat_natCast] at v2 v3
          obtain ⟨b3, o3, rfl, hb3, hc3⟩ := HE.out.2 (by omega)
          obtain ⟨b1, o1, rfl, hb1, hc1⟩ := HA.out.2 (by omega)
          obtain ⟨g2, o2, heC, hg2, hcC⟩ : ∃ g o, aC = some ⟨g, o, none⟩ ∧ g < wr.heap.size ∧ ∀ j u, (intV com)[j]? = some u → wr.cell? ⟨g, o + j, none⟩ = some u := by
            obtain ⟨S', sc', hS', hSl⟩ := own_slice hL.r.c
            have eS : aC = S' := by injection hS'
            subst eS
            exact hSl.2 (show 0 < n by omega)
          subst heC
          obtain ⟨g, go, heS, hg, hcS⟩ : ∃ g o, aS = some ⟨g, o, none⟩ ∧ g < wr.heap.size ∧ ∀ j u, (shmsV ms)[j]? = some u → wr.cell? ⟨g, o + j, none⟩ = some u := by
            obtain ⟨S', sc', hS', hSl⟩ := own_slice hL.r.s
            have eS : aS = S' := by injection hS'
            subst eS
            exact hSl.2 (show 0 < ns by omega)
          subst heS
          have hql : q < rows.length := by rw [Hn.out.1]; exact hqn
          have hget := flat_get rowV 3 (fun _ => rfl) rows q hql
          have hrg : rows.getD q default = rows[q] := by simp [List.getD, hql]
          have hrs70 := hRs.out _ (show rows.getD q default ∈ rows by rw [hrg]; exact List.getElem_mem hql)
          obtain ⟨hkc, hkb⟩ := Hkk.out q hqn
          have hvf := Hvf.out q hqn
          have hcq := Hcq.out q hqn
          rw [← v4] at hvf
          have hpl := (HW.out.1 k hkm).2.2.2
          obtain ⟨x, hx⟩ : ∃ x, rows.getD q default = x := ⟨_, rfl⟩
          rw [← hrg, hx] at hget
          rw [hx] at v2 hkc hvf hcq hrs70
          obtain ⟨bv, hbv⟩ : ∃ b, bl.getD q 0 = b := ⟨_, rfl⟩
          rw [hbv] at v3 hkb hcq
          obtain ⟨cq, hcq'⟩ : ∃ c, com.getD q 0 = c := ⟨_, rfl⟩
          rw [hcq'] at hvf hcq
          have s0 := hcS _ _ (shm_get ms k hkm 0 (by decide))
          have s1 := hcS _ _ (shm_get ms k hkm 1 (by decide))
          have s2 := hcS _ _ (shm_get ms k hkm 2 (by decide))
          have s3 := hcS _ _ (shm_get ms k hkm 3 (by decide))
          have s4 := hcS _ _ (shm_get ms k hkm 4 (by decide))
          have s5 := hcS _ _ (shm_get ms k hkm 5 (by decide))
          have hP := hL.r.sp _ (List.getElem_mem hkm)
          obtain ⟨y, hy⟩ : ∃ y, ms[k] = y := ⟨_, rfl⟩
          rw [hy] at v1 v2 v3 hvf s0 s1 s2 s3 s4 s5 hP hpl
          obtain ⟨yi, yr, yb, PA, ppc, pp⟩ := y
          obtain ⟨xl, xc, xr⟩ := x
          dsimp only at v1 v2 v3 hvf s0 s1 s2 s3 s4 s5 hP hkc hcq hpl hrs70
          subst v1 v2 v3
          dsimp only [shmV] at s0 s1 s2 s3 s4 s5
          obtain ⟨pl, hpl'⟩ : ∃ l, pp.length = l := ⟨_, rfl⟩
          rw [hpl'] at s5 hP hpl
          have z0 : wr.cell? ⟨g, go + k * 6, none⟩ = some (.int .i64 (q : Int)) := s0
          have z1 : wr.cell? ⟨g, go + k * 6 + 1, none⟩ = some (.string xl) := s1
          have z2 : wr.cell? ⟨g, go + k * 6 + 2, none⟩ = some (.int .i64 xc) := s2
          have z3 : wr.cell? ⟨g, go + k * 6 + 3, none⟩ = some (.string xr) := s3
          have z4 : wr.cell? ⟨g, go + k * 6 + 4, none⟩ = some (.int .i64 yb) := s4
          have z5 : wr.cell? ⟨g, go + k * 6 + 5, none⟩ = some (.slice PA pl ppc) := s5
          have hBw := hL.x.be
          have t4 : wr.cell? ⟨T, 4, none⟩ = some (.slice (some ⟨g, go, none⟩) ns acs) := by rw [Lib.cell_of_heap hL.d]; rfl
          have HP := Lib.hid hP
          have hcc : wr.cell? ⟨g2, o2 + q, none⟩ = some (.int .i64 cq) := by rw [← hcq']; exact hcC _ _ (intV_get com q (by rw [Hcl.out]; exact hqn))
          have hsc : wr.cell? ⟨b3, o3 + k, none⟩ = some (.int .i64 (q : Int)) := by rw [← hq]; exact (hBw.cell (p := ⟨b3, o3 + k, none⟩) hb3).trans (hc3 _ _ (intV_get sel k hks))
          have hb3r := Nat.lt_of_lt_of_le hb3 hBw.size
          have hb1r := Nat.lt_of_lt_of_le hb1 hBw.size
          have hr0 : wr.cell? ⟨b1, o1 + q * 3, none⟩ = some (.string xl) := (hBw.cell (p := ⟨b1, o1 + q * 3, none⟩) hb1).trans (hc1 _ _ (hget 0 (by decide)))
          have hr1 : wr.cell? ⟨b1, o1 + q * 3 + 1, none⟩ = some (.int .i64 xc) := (hBw.cell (p := ⟨b1, o1 + q * 3 + 1, none⟩) hb1).trans (hc1 _ _ (hget 1 (by decide)))
          have hr2 : wr.cell? ⟨b1, o1 + q * 3 + 2, none⟩ = some (.string xr) := (hBw.cell (p := ⟨b1, o1 + q * 3 + 2, none⟩) hb1).trans (hc1 _ _ (hget 2 (by decide)))
          have HL := Lib.hid hL
          have HC := Lib.hid (And.intro hcc (And.intro hsc (And.intro hr0 (And.intro hr1 hr2))))
          obtain ⟨lf, hlf⟩ : ∃ l, leafB xl cq xr = l := ⟨_, rfl⟩
          obtain ⟨vv, hvv⟩ : ∃ v, xc % 1073741789 = v := ⟨_, rfl⟩
          rw [hlf] at hvf
          rw [hvv] at hcq
          have hcqb : I64 cq := by rw [hcq]; have := commitI_bd vv yb; exact ⟨by omega, by omega⟩
          have hv0 : 0 ≤ vv ∧ vv < 1073741789 := by omega
          have Hlf := Lib.hid hlf
          have Hvv := Lib.hid hvv
          have Hop : Hid ((commitI vv yb == cq) = true) := Lib.hid (by rw [hcq]; simp)
          have Hvf2 := Lib.hid hvf
          have HcI := Lib.hid hcqb
          have Hkc := Lib.hid hkc
          have Hkb := Lib.hid hkb
          have Hpp := Lib.hid hpl'
          obtain ⟨hl70, _⟩ := hrs70
          have hr70 := (‹_ ∧ _› : xr.size ≤ 70368744177000 ∧ I64 xc).1
          clear hL hsk v4 hc3 hc1 hcC hcS hget hrg hx hbv hcq' hy s0 s1 s2 s3 s4 s5 hP hpl hcc hsc hr0 hr1 hr2 hlf hvv hcq hvf hcqb hkc hkb hpl' hq
          go_upto_region 14 with fail
          obtain ⟨V, hV⟩ : ∃ Q : World, Q = wr.alloc (.cells #[.int .i64 (q : Int), .string xl, .int .i64 xc, .string xr, .int .i64 yb, .slice PA pl ppc] 45) := ⟨_, rfl⟩
          obtain ⟨X, hX⟩ : ∃ X, X = wr.heap.size := ⟨_, rfl⟩
          have hBV : Below wr.heap.size wr V := by rw [hV]; exact bal (Below.refl _ _) _
          have hR : RndAt w #[.string person, .int .i64 month, .slice (some ⟨b1, o1, none⟩) n ca, .slice B m cb, .int .u64 root.toNat] T bs #[.string person, .int .i64 month, .int .u64 root.toNat, .slice (some ⟨g2, o2, none⟩) n acc, .slice (some ⟨g, go, none⟩) ns acs, .int .i64 ahid, .int .i64 abld, .int .i64 asi, .slice aSA 18 aca, .slice aSB p.length acb] ⟨person, month, root, some ⟨g2, o2, none⟩, n, acc, some ⟨g, go, none⟩, ns, acs, ahid, abld, asi, aSA, 18, aca, aSB, p.length, acb⟩ com ms ch p X g2 (o2 + q) b3 (o3 + k) b1 (o1 + q * 3) #[.int .i64 (q : Int), .string xl, .int .i64 xc, .string xr, .int .i64 yb, .slice PA pl ppc] cq q xl xc xr V := ⟨HL.out.go hBV, by rw [hV, hX]; exact World.alloc_heap_new _ _, ⟨(hBV.cell (p := ⟨g2, o2 + q, none⟩) hg2).trans HC.out.1, Nat.lt_of_lt_of_le hg2 hBV.size⟩, ⟨(hBV.cell (p := ⟨b3, o3 + k, none⟩) hb3r).trans HC.out.2.1, Nat.lt_of_lt_of_le hb3r hBV.size⟩, ⟨⟨(hBV.cell (p := ⟨b1, o1 + q * 3, none⟩) hb1r).trans HC.out.2.2.1, (hBV.cell (p := ⟨b1, o1 + q * 3 + 1, none⟩) hb1r).trans HC.out.2.2.2.1, (hBV.cell (p := ⟨b1, o1 + q * 3 + 2, none⟩) hb1r).trans HC.out.2.2.2.2⟩, Nat.lt_of_lt_of_le hb1r hBV.size⟩⟩
          have HPV := Lib.hid (own_below HP.out hBV)
          rw [← hV, ← hX]
          clear hV hX hBV HL HC HP z0 z1 z2 z3 z4 z5 t4 hb3r hb1r hg hg2
          have hRd := hR.go (Below.refl V.heap.size V).drew
          have HRd := Lib.hid hRd
          have HPd := Lib.hid (own_below HPV.out (Below.refl V.heap.size V).drew)
          have hTd : PTabs V.drew := (HT.out.go hRd.l.x.be).1
          have hqI : (q : Int) < (n : Int) := by omega
          refine wp_region_noPanic ?_
          refine wp_region_held_drew (S := fun W => RndAt w #[.string person, .int .i64 month, .slice (some ⟨b1, o1, none⟩) n ca, .slice B m cb, .int .u64 root.toNat] T bs #[.string person, .int .i64 month, .int .u64 root.toNat, .slice (some ⟨g2, o2, none⟩) n acc, .slice (some ⟨g, go, none⟩) ns acs, .int .i64 ahid, .int .i64 abld, .int .i64 asi, .slice aSA 18 aca, .slice aSB p.length acb] ⟨person, month, root, some ⟨g2, o2, none⟩, n, acc, some ⟨g, go, none⟩, ns, acs, ahid, abld, asi, aSA, 18, aca, aSB, p.length, acb⟩ com ms ch p X g2 (o2 + q) b3 (o3 + k) b1 (o1 + q * 3) #[.int .i64 (q : Int), .string xl, .int .i64 xc, .string xr, .int .i64 yb, .slice PA pl ppc] cq q xl xc xr W) (by kernel_rfl) HRd.out (fun hHeld => ?_)
          clear hRd hR
          refine wpAnyH_take (i := 0) (v := ?_) rfl (by kernel_rfl) (by kernel_rfl) (by kernel_rfl) (fun _ _ _ h => h) (Or.inl ⟨by kernel_rfl, ?_⟩) (by assumption) ?_
          rotate_left
          · intro w hSw
            (try dsimp only at hSw)
            go_simp
            first | done | with_reducible rfl
          simp only [List.getElem_toArray, List.getElem_cons_zero, List.getElem_cons_succ, Act.put, List.setIfInBounds_toArray, List.set_cons_zero, List.set_cons_succ]
          refine wpAnyH_take (i := 1) (v := ?_) rfl (by kernel_rfl) (by kernel_rfl) (by kernel_rfl) (fun _ _ _ h => h) (Or.inl ⟨by kernel_rfl, ?_⟩) (by assumption) ?_
          rotate_left
          · intro w hSw
            (try dsimp only at hSw)
            go_simp
            first | done | with_reducible rfl
          simp only [List.getElem_toArray, List.getElem_cons_zero, List.getElem_cons_succ, Act.put, List.setIfInBounds_toArray, List.set_cons_zero, List.set_cons_succ]
          refine wpAnyH_take (i := 2) (v := ?_) rfl (by kernel_rfl) (by kernel_rfl) (by kernel_rfl) (fun _ _ _ h => h) (Or.inl ⟨by kernel_rfl, ?_⟩) (by assumption) ?_
          rotate_left
          · intro w hSw
            (try dsimp only at hSw)
            have z1 : w.cell? ⟨X, 1, none⟩ = some (.string xl) := by rw [Lib.cell_of_heap hSw.x]; rfl
            go_simp
            first | done | with_reducible rfl
          simp only [List.getElem_toArray, List.getElem_cons_zero, List.getElem_cons_succ, Act.put, List.setIfInBounds_toArray, List.set_cons_zero, List.set_cons_succ]
          refine wpAnyH_take (i := 3) (v := ?_) rfl (by kernel_rfl) (by kernel_rfl) (by kernel_rfl) (fun _ _ _ h => h) (Or.inl ⟨by kernel_rfl, ?_⟩) (by assumption) ?_
          rotate_left
          · intro w hSw
            (try dsimp only at hSw)
            go_simp
            first | done | with_reducible rfl
          simp only [List.getElem_toArray, List.getElem_cons_zero, List.getElem_cons_succ, Act.put, List.setIfInBounds_toArray, List.set_cons_zero, List.set_cons_succ]
          refine wpAnyH_take (i := 4) (v := ?_) rfl (by kernel_rfl) (by kernel_rfl) (by kernel_rfl) (fun _ _ _ h => h) (Or.inl ⟨by kernel_rfl, ?_⟩) (by assumption) ?_
          rotate_left
          · intro w hSw
            (try dsimp only at hSw)
            have y3 : w.cell? ⟨T, 3, none⟩ = some (.slice (some ⟨g2, o2, none⟩) n acc) := by rw [Lib.cell_of_heap hSw.l.d]; rfl
            go_simp
            first | done | with_reducible rfl
          simp only [List.getElem_toArray, List.getElem_cons_zero, List.getElem_cons_succ, Act.put, List.setIfInBounds_toArray, List.set_cons_zero, List.set_cons_succ]
          refine wpAnyH_take (i := 5) (v := ?_) rfl (by kernel_rfl) (by kernel_rfl) (by kernel_rfl) (fun _ _ _ h => h) (Or.inl ⟨by kernel_rfl, ?_⟩) (by assumption) ?_
          rotate_left
          · intro w hSw
            (try dsimp only at hSw)
            go_simp
            first | done | with_reducible rfl
          simp only [List.getElem_toArray, List.getElem_cons_zero, List.getElem_cons_succ, Act.put, List.setIfInBounds_toArray, List.set_cons_zero, List.set_cons_succ]
          refine wpAnyH_take (i := 6) (v := ?_) rfl (by kernel_rfl) (by kernel_rfl) (by kernel_rfl) (fun _ _ _ h => h) (Or.inl ⟨by kernel_rfl, ?_⟩) (by assumption) ?_
          rotate_left
          · intro w hSw
            (try dsimp only at hSw)
            have z0 : w.cell? ⟨X, 0, none⟩ = some (.int .i64 (q : Int)) := by rw [Lib.cell_of_heap hSw.x]; rfl
            go_simp
            first | done | with_reducible rfl
          simp only [List.getElem_toArray, List.getElem_cons_zero, List.getElem_cons_succ, Act.put, List.setIfInBounds_toArray, List.set_cons_zero, List.set_cons_succ]
          refine wpAnyH_take (i := 7) (v := ?_) rfl (by kernel_rfl) (by kernel_rfl) (by kernel_rfl) (fun _ _ _ h => h) (Or.inl ⟨by kernel_rfl, ?_⟩) (by assumption) ?_
          rotate_left
          · intro w hSw
            (try dsimp only at hSw)
            go_simp
            first | done | with_reducible rfl
          simp only [List.getElem_toArray, List.getElem_cons_zero, List.getElem_cons_succ, Act.put, List.setIfInBounds_toArray, List.set_cons_zero, List.set_cons_succ]
          refine wpAnyH_take (i := 8) (v := ?_) rfl (by kernel_rfl) (by kernel_rfl) (by kernel_rfl) (fun _ _ _ h => h) (Or.inl ⟨by kernel_rfl, ?_⟩) (by assumption) ?_
          rotate_left
          · intro w hSw
            (try dsimp only at hSw)
            have y9 := hSw.c.1
            go_simp
            first | done | with_reducible rfl
          simp only [List.getElem_toArray, List.getElem_cons_zero, List.getElem_cons_succ, Act.put, List.setIfInBounds_toArray, List.set_cons_zero, List.set_cons_succ]
          refine wpAnyH_take (i := 9) (v := ?_) rfl (by kernel_rfl) (by kernel_rfl) (by kernel_rfl) (fun _ _ _ h => h) (Or.inl ⟨by kernel_rfl, ?_⟩) (by assumption) ?_
          rotate_left
          · intro w hSw
            (try dsimp only at hSw)
            go_simp
            first | done | with_reducible rfl
          simp only [List.getElem_toArray, List.getElem_cons_zero, List.getElem_cons_succ, Act.put, List.setIfInBounds_toArray, List.set_cons_zero, List.set_cons_succ]
          refine wpAnyH_take (i := 10) (v := ?_) rfl (by kernel_rfl) (by kernel_rfl) (by kernel_rfl) (fun _ _ _ h => h) (Or.inl ⟨by kernel_rfl, ?_⟩) (by assumption) ?_
          rotate_left
          · intro w hSw
            (try dsimp only at hSw)
            go_simp
            first | done | with_reducible rfl
          simp only [List.getElem_toArray, List.getElem_cons_zero, List.getElem_cons_succ, Act.put, List.setIfInBounds_toArray, List.set_cons_zero, List.set_cons_succ]
          refine wpAnyH_take (i := 11) (v := ?_) rfl (by kernel_rfl) (by kernel_rfl) (by kernel_rfl) (fun _ _ _ h => h) (Or.inl ⟨by kernel_rfl, ?_⟩) (by assumption) ?_
          rotate_left
          · intro w hSw
            (try dsimp only at hSw)
            have z3 : w.cell? ⟨X, 3, none⟩ = some (.string xr) := by rw [Lib.cell_of_heap hSw.x]; rfl
            go_simp
            first | done | with_reducible rfl
          simp only [List.getElem_toArray, List.getElem_cons_zero, List.getElem_cons_succ, Act.put, List.setIfInBounds_toArray, List.set_cons_zero, List.set_cons_succ]
          refine wpAnyH_ready (rs := [12]) (by kernel_rfl) (by simp) ?_
          refine AllReadyH.cons rfl (fun K hK => ?_) AllReadyH.nil
          simp only [List.getElem_toArray, List.getElem_cons_zero, List.getElem_cons_succ]
          go_simp
          (with_reducible refine (leafP_at xl cq xr lf Hlf HcI.out hl70 hr70 V.drew hTd).mono ?_)
          rintro e w8 ⟨rfl, hB8⟩
          dsimp only
          have hR8 := HRd.out.go hB8
          have HR8 := Lib.hid hR8
          have HP8 := Lib.hid (own_below HPd.out hB8)
          refine hK.out _ _ HR8.out (fun hHeld => ?_)
          clear hR8 hB8
          clear hK K
          try simp only [List.getElem_toArray, List.getElem_cons_zero, List.getElem_cons_succ, Act.put, List.setIfInBounds_toArray, List.set_cons_zero, List.set_cons_succ]
          refine wpAnyH_take (i := 13) (v := ?_) rfl (by kernel_rfl) (by kernel_rfl) (by kernel_rfl) (fun _ _ _ h => h) (Or.inl ⟨by kernel_rfl, ?_⟩) (by assumption) ?_
          rotate_left
          · intro w hSw
            (try dsimp only at hSw)
            go_simp
            first | done | with_reducible rfl
          simp only [List.getElem_toArray, List.getElem_cons_zero, List.getElem_cons_succ, Act.put, List.setIfInBounds_toArray, List.set_cons_zero, List.set_cons_succ]
          refine wpAnyH_done (by kernel_rfl) ?_ _
          dsimp only [NoPanic]
          clear hHeld
          clear HRd HPd hTd
          go_upto_region 15 with fail
          have hRd := HR8.out.go (Below.refl w8.heap.size w8).drew
          have HRd := Lib.hid hRd
          have HPd := Lib.hid (own_below HP8.out (Below.refl w8.heap.size w8).drew)
          have hTd : DTabs w8.drew := HT.out.go hRd.l.x.be
          have hbox2 : ∀ W, RndAt w #[.string person, .int .i64 month, .slice (some ⟨b1, o1, none⟩) n ca, .slice B m cb, .int .u64 root.toNat] T bs #[.string person, .int .i64 month, .int .u64 root.toNat, .slice (some ⟨g2, o2, none⟩) n acc, .slice (some ⟨g, go, none⟩) ns acs, .int .i64 ahid, .int .i64 abld, .int .i64 asi, .slice aSA 18 aca, .slice aSB p.length acb] ⟨person, month, root, some ⟨g2, o2, none⟩, n, acc, some ⟨g, go, none⟩, ns, acs, ahid, abld, asi, aSA, 18, aca, aSB, p.length, acb⟩ com ms ch p X g2 (o2 + q) b3 (o3 + k) b1 (o1 + q * 3) #[.int .i64 (q : Int), .string xl, .int .i64 xc, .string xr, .int .i64 yb, .slice PA pl ppc] cq q xl xc xr W → W.cell? ⟨w.heap.size, 2, none⟩ = some (.slice (some ⟨b1, o1, none⟩) n ca) := fun W hW => by rw [Lib.cell_of_heap hW.l.x.b]; rfl
          have hlz : lf.size ≤ 140737488355328 := by rw [← Hlf.out]; exact leafB_size hl70 hr70 HcI.out
          obtain ⟨PA', pc', hPA', hSp⟩ := own_slice HPd.out
          injection hPA' with u1 u2 u3
          subst u1 u3
          have HSp := Lib.hid hSp
          have hvv := Hvv.out
          refine wp_region_noPanic ?_
          refine wp_region_held_drew (S := fun W => RndAt w #[.string person, .int .i64 month, .slice (some ⟨b1, o1, none⟩) n ca, .slice B m cb, .int .u64 root.toNat] T bs #[.string person, .int .i64 month, .int .u64 root.toNat, .slice (some ⟨g2, o2, none⟩) n acc, .slice (some ⟨g, go, none⟩) ns acs, .int .i64 ahid, .int .i64 abld, .int .i64 asi, .slice aSA 18 aca, .slice aSB p.length acb] ⟨person, month, root, some ⟨g2, o2, none⟩, n, acc, some ⟨g, go, none⟩, ns, acs, ahid, abld, asi, aSA, 18, aca, aSB, p.length, acb⟩ com ms ch p X g2 (o2 + q) b3 (o3 + k) b1 (o1 + q * 3) #[.int .i64 (q : Int), .string xl, .int .i64 xc, .string xr, .int .i64 yb, .slice PA pl ppc] cq q xl xc xr W) (by kernel_rfl) HRd.out (fun hHeld => ?_)
          clear hRd hSp
          try simp only [List.append_eq, List.cons_append, List.nil_append]
          refine wpAnyH_take (i := 0) (v := ?_) rfl (by kernel_rfl) (by kernel_rfl) (by kernel_rfl) (fun _ _ _ h => h) (Or.inl ⟨by kernel_rfl, ?_⟩) (by assumption) ?_
          rotate_left
          · intro w hSw
            (try dsimp only at hSw)
            go_simp
            first | done | with_reducible rfl
          simp only [List.getElem_toArray, List.getElem_cons_zero, List.getElem_cons_succ, Act.put, List.setIfInBounds_toArray, List.set_cons_zero, List.set_cons_succ]
          refine wpAnyH_take (i := 1) (v := ?_) rfl (by kernel_rfl) (by kernel_rfl) (by kernel_rfl) (fun _ _ _ h => h) (Or.inl ⟨by kernel_rfl, ?_⟩) (by assumption) ?_
          rotate_left
          · intro w hSw
            (try dsimp only at hSw)
            have z0 : w.cell? ⟨X, 0, none⟩ = some (.int .i64 (q : Int)) := by rw [Lib.cell_of_heap hSw.x]; rfl
            go_simp
            first | done | with_reducible rfl
          simp only [List.getElem_toArray, List.getElem_cons_zero, List.getElem_cons_succ, Act.put, List.setIfInBounds_toArray, List.set_cons_zero, List.set_cons_succ]
          refine wpAnyH_take (i := 2) (v := ?_) rfl (by kernel_rfl) (by kernel_rfl) (by kernel_rfl) (fun _ _ _ h => h) (Or.inl ⟨by kernel_rfl, ?_⟩) (by assumption) ?_
          rotate_left
          · intro w hSw
            (try dsimp only at hSw)
            go_simp
            first | done | with_reducible rfl
          simp only [List.getElem_toArray, List.getElem_cons_zero, List.getElem_cons_succ, Act.put, List.setIfInBounds_toArray, List.set_cons_zero, List.set_cons_succ]
          refine wpAnyH_take (i := 3) (v := ?_) rfl (by kernel_rfl) (by kernel_rfl) (by kernel_rfl) (fun _ _ _ h => h) (Or.inl ⟨by kernel_rfl, ?_⟩) (by assumption) ?_
          rotate_left
          · intro w hSw
            (try dsimp only at hSw)
            go_simp
            first | done | with_reducible rfl
          simp only [List.getElem_toArray, List.getElem_cons_zero, List.getElem_cons_succ, Act.put, List.setIfInBounds_toArray, List.set_cons_zero, List.set_cons_succ]
          refine wpAnyH_take (i := 4) (v := ?_) rfl (by kernel_rfl) (by kernel_rfl) (by kernel_rfl) (fun _ _ _ h => h) (Or.inl ⟨by kernel_rfl, ?_⟩) (by assumption) ?_
          rotate_left
          · intro w hSw
            (try dsimp only at hSw)
            go_simp
            first | done | with_reducible rfl
          simp only [List.getElem_toArray, List.getElem_cons_zero, List.getElem_cons_succ, Act.put, List.setIfInBounds_toArray, List.set_cons_zero, List.set_cons_succ]
          refine wpAnyH_take (i := 5) (v := ?_) rfl (by kernel_rfl) (by kernel_rfl) (by kernel_rfl) (fun _ _ _ h => h) (Or.inl ⟨by kernel_rfl, ?_⟩) (by assumption) ?_
          rotate_left
          · intro w hSw
            (try dsimp only at hSw)
            have y9 := hSw.s.1
            go_simp
            first | done | with_reducible rfl
          simp only [List.getElem_toArray, List.getElem_cons_zero, List.getElem_cons_succ, Act.put, List.setIfInBounds_toArray, List.set_cons_zero, List.set_cons_succ]
          refine wpAnyH_take (i := 6) (v := ?_) rfl (by kernel_rfl) (by kernel_rfl) (by kernel_rfl) (fun _ _ _ h => h) (Or.inl ⟨by kernel_rfl, ?_⟩) (by assumption) ?_
          rotate_left
          · intro w hSw
            (try dsimp only at hSw)
            go_simp
            first | done | with_reducible rfl
          simp only [List.getElem_toArray, List.getElem_cons_zero, List.getElem_cons_succ, Act.put, List.setIfInBounds_toArray, List.set_cons_zero, List.set_cons_succ]
          refine wpAnyH_take (i := 7) (v := ?_) rfl (by kernel_rfl) (by kernel_rfl) (by kernel_rfl) (fun _ _ _ h => h) (Or.inl ⟨by kernel_rfl, ?_⟩) (by assumption) ?_
          rotate_left
          · intro w hSw
            (try dsimp only at hSw)
            go_simp
            first | done | with_reducible rfl
          simp only [List.getElem_toArray, List.getElem_cons_zero, List.getElem_cons_succ, Act.put, List.setIfInBounds_toArray, List.set_cons_zero, List.set_cons_succ]
          refine wpAnyH_take (i := 8) (v := ?_) rfl (by kernel_rfl) (by kernel_rfl) (by kernel_rfl) (fun _ _ _ h => h) (Or.inl ⟨by kernel_rfl, ?_⟩) (by assumption) ?_
          rotate_left
          · intro w hSw
            (try dsimp only at hSw)
            go_simp
            first | done | with_reducible rfl
          simp only [List.getElem_toArray, List.getElem_cons_zero, List.getElem_cons_succ, Act.put, List.setIfInBounds_toArray, List.set_cons_zero, List.set_cons_succ]
          refine wpAnyH_take (i := 9) (v := ?_) rfl (by kernel_rfl) (by kernel_rfl) (by kernel_rfl) (fun _ _ _ h => h) (Or.inl ⟨by kernel_rfl, ?_⟩) (by assumption) ?_
          rotate_left
          · intro w hSw
            (try dsimp only at hSw)
            have z1 : w.cell? ⟨X, 1, none⟩ = some (.string xl) := by rw [Lib.cell_of_heap hSw.x]; rfl
            have z2 : w.cell? ⟨X, 2, none⟩ = some (.int .i64 xc) := by rw [Lib.cell_of_heap hSw.x]; rfl
            have z3 : w.cell? ⟨X, 3, none⟩ = some (.string xr) := by rw [Lib.cell_of_heap hSw.x]; rfl
            go_simp
            first | done | with_reducible rfl
          simp only [List.getElem_toArray, List.getElem_cons_zero, List.getElem_cons_succ, Act.put, List.setIfInBounds_toArray, List.set_cons_zero, List.set_cons_succ]
          refine wpAnyH_take (i := 10) (v := ?_) rfl (by kernel_rfl) (by kernel_rfl) (by kernel_rfl) (fun _ _ _ h => h) (Or.inl ⟨by kernel_rfl, ?_⟩) (by assumption) ?_
          rotate_left
          · intro w hSw
            (try dsimp only at hSw)
            go_simp
            first | done | with_reducible rfl
          simp only [List.getElem_toArray, List.getElem_cons_zero, List.getElem_cons_succ, Act.put, List.setIfInBounds_toArray, List.set_cons_zero, List.set_cons_succ]
          refine wpAnyH_take (i := 11) (v := ?_) rfl (by kernel_rfl) (by kernel_rfl) (by kernel_rfl) (fun _ _ _ h => h) (Or.inl ⟨by kernel_rfl, ?_⟩) (by assumption) ?_
          rotate_left
          · intro w hSw
            (try dsimp only at hSw)
            have y8 := hbox2 w hSw
            go_simp
            first | done | with_reducible rfl
          simp only [List.getElem_toArray, List.getElem_cons_zero, List.getElem_cons_succ, Act.put, List.setIfInBounds_toArray, List.set_cons_zero, List.set_cons_succ]
          refine wpAnyH_take (i := 12) (v := ?_) rfl (by kernel_rfl) (by kernel_rfl) (by kernel_rfl) (fun _ _ _ h => h) (Or.inl ⟨by kernel_rfl, ?_⟩) (by assumption) ?_
          rotate_left
          · intro w hSw
            (try dsimp only at hSw)
            go_simp
            first | done | with_reducible rfl
          simp only [List.getElem_toArray, List.getElem_cons_zero, List.getElem_cons_succ, Act.put, List.setIfInBounds_toArray, List.set_cons_zero, List.set_cons_succ]
          refine wpAnyH_take (i := 13) (v := ?_) rfl (by kernel_rfl) (by kernel_rfl) (by kernel_rfl) (fun _ _ _ h => h) (Or.inl ⟨by kernel_rfl, ?_⟩) (by assumption) ?_
          rotate_left
          · intro w hSw
            (try dsimp only at hSw)
            go_simp
            first | done | with_reducible rfl
          simp only [List.getElem_toArray, List.getElem_cons_zero, List.getElem_cons_succ, Act.put, List.setIfInBounds_toArray, List.set_cons_zero, List.set_cons_succ]
          refine wpAnyH_take (i := 14) (v := ?_) rfl (by kernel_rfl) (by kernel_rfl) (by kernel_rfl) (fun _ _ _ h => h) (Or.inl ⟨by kernel_rfl, ?_⟩) (by assumption) ?_
          rotate_left
          · intro w hSw
            (try dsimp only at hSw)
            go_simp
            first | done | with_reducible rfl
          simp only [List.getElem_toArray, List.getElem_cons_zero, List.getElem_cons_succ, Act.put, List.setIfInBounds_toArray, List.set_cons_zero, List.set_cons_succ]
          refine wpAnyH_take (i := 15) (v := ?_) rfl (by kernel_rfl) (by kernel_rfl) (by kernel_rfl) (fun _ _ _ h => h) (Or.inl ⟨by kernel_rfl, ?_⟩) (by assumption) ?_
          rotate_left
          · intro w hSw
            (try dsimp only at hSw)
            have y9 := hSw.s.1
            go_simp
            first | done | with_reducible rfl
          simp only [List.getElem_toArray, List.getElem_cons_zero, List.getElem_cons_succ, Act.put, List.setIfInBounds_toArray, List.set_cons_zero, List.set_cons_succ]
          refine wpAnyH_take (i := 16) (v := ?_) rfl (by kernel_rfl) (by kernel_rfl) (by kernel_rfl) (fun _ _ _ h => h) (Or.inl ⟨by kernel_rfl, ?_⟩) (by assumption) ?_
          rotate_left
          · intro w hSw
            (try dsimp only at hSw)
            go_simp
            first | done | with_reducible rfl
          simp only [List.getElem_toArray, List.getElem_cons_zero, List.getElem_cons_succ, Act.put, List.setIfInBounds_toArray, List.set_cons_zero, List.set_cons_succ]
          refine wpAnyH_take (i := 17) (v := ?_) rfl (by kernel_rfl) (by kernel_rfl) (by kernel_rfl) (fun _ _ _ h => h) (Or.inl ⟨by kernel_rfl, ?_⟩) (by assumption) ?_
          rotate_left
          · intro w hSw
            (try dsimp only at hSw)
            obtain ⟨v0, v1, v2⟩ := hSw.r.1
            go_simp
            first | done | with_reducible rfl
          simp only [List.getElem_toArray, List.getElem_cons_zero, List.getElem_cons_succ, Act.put, List.setIfInBounds_toArray, List.set_cons_zero, List.set_cons_succ]
          refine wpAnyH_take (i := 18) (v := ?_) rfl (by kernel_rfl) (by kernel_rfl) (by kernel_rfl) (fun _ _ _ h => h) (Or.inl ⟨by kernel_rfl, ?_⟩) (by assumption) ?_
          rotate_left
          · intro w hSw
            (try dsimp only at hSw)
            go_simp
            first | done | with_reducible rfl
          simp only [List.getElem_toArray, List.getElem_cons_zero, List.getElem_cons_succ, Act.put, List.setIfInBounds_toArray, List.set_cons_zero, List.set_cons_succ]
          refine wpAnyH_take (i := 19) (v := ?_) rfl (by kernel_rfl) (by kernel_rfl) (by kernel_rfl) (fun _ _ _ h => h) (Or.inl ⟨by kernel_rfl, ?_⟩) (by assumption) ?_
          rotate_left
          · intro w hSw
            (try dsimp only at hSw)
            go_simp
            first | done | with_reducible rfl
          simp only [List.getElem_toArray, List.getElem_cons_zero, List.getElem_cons_succ, Act.put, List.setIfInBounds_toArray, List.set_cons_zero, List.set_cons_succ]
          refine wpAnyH_take (i := 20) (v := ?_) rfl (by kernel_rfl) (by kernel_rfl) (by kernel_rfl) (fun _ _ _ h => h) (Or.inl ⟨by kernel_rfl, ?_⟩) (by assumption) ?_
          rotate_left
          · intro w hSw
            (try dsimp only at hSw)
            go_simp
            first | done | with_reducible rfl
          simp only [List.getElem_toArray, List.getElem_cons_zero, List.getElem_cons_succ, Act.put, List.setIfInBounds_toArray, List.set_cons_zero, List.set_cons_succ]
          refine wpAnyH_take (i := 21) (v := ?_) rfl (by kernel_rfl) (by kernel_rfl) (by kernel_rfl) (fun _ _ _ h => h) (Or.inl ⟨by kernel_rfl, ?_⟩) (by assumption) ?_
          rotate_left
          · intro w hSw
            (try dsimp only at hSw)
            go_simp
            first | done | with_reducible rfl
          simp only [List.getElem_toArray, List.getElem_cons_zero, List.getElem_cons_succ, Act.put, List.setIfInBounds_toArray, List.set_cons_zero, List.set_cons_succ]
          refine wpAnyH_take (i := 22) (v := ?_) rfl (by kernel_rfl) (by kernel_rfl) (by kernel_rfl) (fun _ _ _ h => h) (Or.inl ⟨by kernel_rfl, ?_⟩) (by assumption) ?_
          rotate_left
          · intro w hSw
            (try dsimp only at hSw)
            have y2 : w.cell? ⟨T, 2, none⟩ = some (.int .u64 root.toNat) := by rw [Lib.cell_of_heap hSw.l.d]; rfl
            go_simp
            first | done | with_reducible rfl
          simp only [List.getElem_toArray, List.getElem_cons_zero, List.getElem_cons_succ, Act.put, List.setIfInBounds_toArray, List.set_cons_zero, List.set_cons_succ]
          refine wpAnyH_take (i := 23) (v := ?_) rfl (by kernel_rfl) (by kernel_rfl) (by kernel_rfl) (fun _ _ _ h => h) (Or.inl ⟨by kernel_rfl, ?_⟩) (by assumption) ?_
          rotate_left
          · intro w hSw
            (try dsimp only at hSw)
            go_simp
            first | done | with_reducible rfl
          simp only [List.getElem_toArray, List.getElem_cons_zero, List.getElem_cons_succ, Act.put, List.setIfInBounds_toArray, List.set_cons_zero, List.set_cons_succ]
          refine wpAnyH_take (i := 24) (v := ?_) rfl (by kernel_rfl) (by kernel_rfl) (by kernel_rfl) (fun _ _ _ h => h) (Or.inl ⟨by kernel_rfl, ?_⟩) (by assumption) ?_
          rotate_left
          · intro w hSw
            (try dsimp only at hSw)
            go_simp
            first | done | with_reducible rfl
          simp only [List.getElem_toArray, List.getElem_cons_zero, List.getElem_cons_succ, Act.put, List.setIfInBounds_toArray, List.set_cons_zero, List.set_cons_succ]
          refine wpAnyH_take (i := 25) (v := ?_) rfl (by kernel_rfl) (by kernel_rfl) (by kernel_rfl) (fun _ _ _ h => h) (Or.inl ⟨by kernel_rfl, ?_⟩) (by assumption) ?_
          rotate_left
          · intro w hSw
            (try dsimp only at hSw)
            have z0 : w.cell? ⟨X, 0, none⟩ = some (.int .i64 (q : Int)) := by rw [Lib.cell_of_heap hSw.x]; rfl
            go_simp
            first | done | with_reducible rfl
          simp only [List.getElem_toArray, List.getElem_cons_zero, List.getElem_cons_succ, Act.put, List.setIfInBounds_toArray, List.set_cons_zero, List.set_cons_succ]
          refine wpAnyH_take (i := 26) (v := ?_) rfl (by kernel_rfl) (by kernel_rfl) (by kernel_rfl) (fun _ _ _ h => h) (Or.inl ⟨by kernel_rfl, ?_⟩) (by assumption) ?_
          rotate_left
          · intro w hSw
            (try dsimp only at hSw)
            go_simp
            first | done | with_reducible rfl
          simp only [List.getElem_toArray, List.getElem_cons_zero, List.getElem_cons_succ, Act.put, List.setIfInBounds_toArray, List.set_cons_zero, List.set_cons_succ]
          refine wpAnyH_take (i := 27) (v := ?_) rfl (by kernel_rfl) (by kernel_rfl) (by kernel_rfl) (fun _ _ _ h => h) (Or.inl ⟨by kernel_rfl, ?_⟩) (by assumption) ?_
          rotate_left
          · intro w hSw
            (try dsimp only at hSw)
            go_simp
            first | done | with_reducible rfl
          simp only [List.getElem_toArray, List.getElem_cons_zero, List.getElem_cons_succ, Act.put, List.setIfInBounds_toArray, List.set_cons_zero, List.set_cons_succ]
          refine wpAnyH_take (i := 28) (v := ?_) rfl (by kernel_rfl) (by kernel_rfl) (by kernel_rfl) (fun _ _ _ h => h) (Or.inl ⟨by kernel_rfl, ?_⟩) (by assumption) ?_
          rotate_left
          · intro w hSw
            (try dsimp only at hSw)
            have z5 : w.cell? ⟨X, 5, none⟩ = some (.slice PA pl ppc) := by rw [Lib.cell_of_heap hSw.x]; rfl
            go_simp
            first | done | with_reducible rfl
          simp only [List.getElem_toArray, List.getElem_cons_zero, List.getElem_cons_succ, Act.put, List.setIfInBounds_toArray, List.set_cons_zero, List.set_cons_succ]
          refine wpAnyH_ready (rs := [29]) (by kernel_rfl) (by simp) ?_
          refine AllReadyH.cons rfl (fun K hK => ?_) AllReadyH.nil
          simp only [List.getElem_toArray, List.getElem_cons_zero, List.getElem_cons_succ]
          go_simp
          (with_reducible refine (verify_at PA ppc pl root (n : Int) (q : Int) lf pp true w8.drew Hpp.out Hvf2.out HSp.out hlz).mono ?_)
          rintro e w9 ⟨rfl, hB9⟩
          dsimp only
          have hR9 := HRd.out.go hB9
          have HR9 := Lib.hid hR9
          refine hK.out _ _ HR9.out (fun hHeld => ?_)
          clear hR9
          clear hK K
          try simp only [List.getElem_toArray, List.getElem_cons_zero, List.getElem_cons_succ, Act.put, List.setIfInBounds_toArray, List.set_cons_zero, List.set_cons_succ]
          refine wpAnyH_take (i := 30) (v := ?_) rfl (by kernel_rfl) (by kernel_rfl) (by kernel_rfl) (fun _ _ _ h => h) (Or.inl ⟨by kernel_rfl, ?_⟩) (by assumption) ?_
          rotate_left
          · intro w hSw
            (try dsimp only at hSw)
            go_simp
            first | done | with_reducible rfl
          simp only [List.getElem_toArray, List.getElem_cons_zero, List.getElem_cons_succ, Act.put, List.setIfInBounds_toArray, List.set_cons_zero, List.set_cons_succ]
          refine wpAnyH_take (i := 31) (v := ?_) rfl (by kernel_rfl) (by kernel_rfl) (by kernel_rfl) (fun _ _ _ h => h) (Or.inl ⟨by kernel_rfl, ?_⟩) (by assumption) ?_
          rotate_left
          · intro w hSw
            (try dsimp only at hSw)
            go_simp
            first | done | with_reducible rfl
          simp only [List.getElem_toArray, List.getElem_cons_zero, List.getElem_cons_succ, Act.put, List.setIfInBounds_toArray, List.set_cons_zero, List.set_cons_succ]
          refine wpAnyH_take (i := 32) (v := ?_) rfl (by kernel_rfl) (by kernel_rfl) (by kernel_rfl) (fun _ _ _ h => h) (Or.inl ⟨by kernel_rfl, ?_⟩) (by assumption) ?_
          rotate_left
          · intro w hSw
            (try dsimp only at hSw)
            go_simp
            first | done | with_reducible rfl
          simp only [List.getElem_toArray, List.getElem_cons_zero, List.getElem_cons_succ, Act.put, List.setIfInBounds_toArray, List.set_cons_zero, List.set_cons_succ]
          refine wpAnyH_take (i := 33) (v := ?_) rfl (by kernel_rfl) (by kernel_rfl) (by kernel_rfl) (fun _ _ _ h => h) (Or.inl ⟨by kernel_rfl, ?_⟩) (by assumption) ?_
          rotate_left
          · intro w hSw
            (try dsimp only at hSw)
            go_simp
            first | done | with_reducible rfl
          simp only [List.getElem_toArray, List.getElem_cons_zero, List.getElem_cons_succ, Act.put, List.setIfInBounds_toArray, List.set_cons_zero, List.set_cons_succ]
          refine wpAnyH_take (i := 34) (v := ?_) rfl (by kernel_rfl) (by kernel_rfl) (by kernel_rfl) (fun _ _ _ h => h) (Or.inl ⟨by kernel_rfl, ?_⟩) (by assumption) ?_
          rotate_left
          · intro w hSw
            (try dsimp only at hSw)
            have y3 : w.cell? ⟨T, 3, none⟩ = some (.slice (some ⟨g2, o2, none⟩) n acc) := by rw [Lib.cell_of_heap hSw.l.d]; rfl
            go_simp
            first | done | with_reducible rfl
          simp only [List.getElem_toArray, List.getElem_cons_zero, List.getElem_cons_succ, Act.put, List.setIfInBounds_toArray, List.set_cons_zero, List.set_cons_succ]
          refine wpAnyH_take (i := 35) (v := ?_) rfl (by kernel_rfl) (by kernel_rfl) (by kernel_rfl) (fun _ _ _ h => h) (Or.inl ⟨by kernel_rfl, ?_⟩) (by assumption) ?_
          rotate_left
          · intro w hSw
            (try dsimp only at hSw)
            go_simp
            first | done | with_reducible rfl
          simp only [List.getElem_toArray, List.getElem_cons_zero, List.getElem_cons_succ, Act.put, List.setIfInBounds_toArray, List.set_cons_zero, List.set_cons_succ]
          refine wpAnyH_take (i := 36) (v := ?_) rfl (by kernel_rfl) (by kernel_rfl) (by kernel_rfl) (fun _ _ _ h => h) (Or.inl ⟨by kernel_rfl, ?_⟩) (by assumption) ?_
          rotate_left
          · intro w hSw
            (try dsimp only at hSw)
            have z0 : w.cell? ⟨X, 0, none⟩ = some (.int .i64 (q : Int)) := by rw [Lib.cell_of_heap hSw.x]; rfl
            go_simp
            first | done | with_reducible rfl
          simp only [List.getElem_toArray, List.getElem_cons_zero, List.getElem_cons_succ, Act.put, List.setIfInBounds_toArray, List.set_cons_zero, List.set_cons_succ]
          refine wpAnyH_take (i := 37) (v := ?_) rfl (by kernel_rfl) (by kernel_rfl) (by kernel_rfl) (fun _ _ _ h => h) (Or.inl ⟨by kernel_rfl, ?_⟩) (by assumption) ?_
          rotate_left
          · intro w hSw
            (try dsimp only at hSw)
            go_simp
            first | done | with_reducible rfl
          simp only [List.getElem_toArray, List.getElem_cons_zero, List.getElem_cons_succ, Act.put, List.setIfInBounds_toArray, List.set_cons_zero, List.set_cons_succ]
          refine wpAnyH_take (i := 38) (v := ?_) rfl (by kernel_rfl) (by kernel_rfl) (by kernel_rfl) (fun _ _ _ h => h) (Or.inl ⟨by kernel_rfl, ?_⟩) (by assumption) ?_
          rotate_left
          · intro w hSw
            (try dsimp only at hSw)
            have y9 := hSw.c.1
            go_simp
            first | done | with_reducible rfl
          simp only [List.getElem_toArray, List.getElem_cons_zero, List.getElem_cons_succ, Act.put, List.setIfInBounds_toArray, List.set_cons_zero, List.set_cons_succ]
          refine wpAnyH_take (i := 39) (v := ?_) rfl (by kernel_rfl) (by kernel_rfl) (by kernel_rfl) (fun _ _ _ h => h) (Or.inl ⟨by kernel_rfl, ?_⟩) (by assumption) ?_
          rotate_left
          · intro w hSw
            (try dsimp only at hSw)
            go_simp
            first | done | with_reducible rfl
          simp only [List.getElem_toArray, List.getElem_cons_zero, List.getElem_cons_succ, Act.put, List.setIfInBounds_toArray, List.set_cons_zero, List.set_cons_succ]
          refine wpAnyH_take (i := 40) (v := ?_) rfl (by kernel_rfl) (by kernel_rfl) (by kernel_rfl) (fun _ _ _ h => h) (Or.inl ⟨by kernel_rfl, ?_⟩) (by assumption) ?_
          rotate_left
          · intro w hSw
            (try dsimp only at hSw)
            go_simp
            first | done | with_reducible rfl
          simp only [List.getElem_toArray, List.getElem_cons_zero, List.getElem_cons_succ, Act.put, List.setIfInBounds_toArray, List.set_cons_zero, List.set_cons_succ]
          refine wpAnyH_take (i := 41) (v := ?_) rfl (by kernel_rfl) (by kernel_rfl) (by kernel_rfl) (fun _ _ _ h => h) (Or.inl ⟨by kernel_rfl, ?_⟩) (by assumption) ?_
          rotate_left
          · intro w hSw
            (try dsimp only at hSw)
            have z2 : w.cell? ⟨X, 2, none⟩ = some (.int .i64 xc) := by rw [Lib.cell_of_heap hSw.x]; rfl
            go_simp
            first | done | with_reducible rfl
          simp only [List.getElem_toArray, List.getElem_cons_zero, List.getElem_cons_succ, Act.put, List.setIfInBounds_toArray, List.set_cons_zero, List.set_cons_succ]
          refine wpAnyH_take (i := 43) (v := ?_) rfl (by kernel_rfl) (by kernel_rfl) (by kernel_rfl) (fun _ _ _ h => h) (Or.inl ⟨by kernel_rfl, ?_⟩) (by assumption) ?_
          rotate_left
          · intro w hSw
            (try dsimp only at hSw)
            go_simp
            first | done | with_reducible rfl
          simp only [List.getElem_toArray, List.getElem_cons_zero, List.getElem_cons_succ, Act.put, List.setIfInBounds_toArray, List.set_cons_zero, List.set_cons_succ]
          refine wpAnyH_take (i := 44) (v := ?_) rfl (by kernel_rfl) (by kernel_rfl) (by kernel_rfl) (fun _ _ _ h => h) (Or.inl ⟨by kernel_rfl, ?_⟩) (by assumption) ?_
          rotate_left
          · intro w hSw
            (try dsimp only at hSw)
            have z4 : w.cell? ⟨X, 4, none⟩ = some (.int .i64 yb) := by rw [Lib.cell_of_heap hSw.x]; rfl
            go_simp
            first | done | with_reducible rfl
          simp only [List.getElem_toArray, List.getElem_cons_zero, List.getElem_cons_succ, Act.put, List.setIfInBounds_toArray, List.set_cons_zero, List.set_cons_succ]
          refine wpAnyH_ready (rs := [42]) (by kernel_rfl) (by simp) ?_
          refine AllReadyH.cons rfl (fun K hK => ?_) AllReadyH.nil
          simp only [List.getElem_toArray, List.getElem_cons_zero, List.getElem_cons_succ]
          go_simp
          (with_reducible refine (value_any xc vv Hvv Hkc.out w9).mono ?_)
          rintro e wa ⟨rfl, hBa⟩
          dsimp only
          have hRa := HR9.out.go hBa
          have HRa := Lib.hid hRa
          refine hK.out _ _ HRa.out (fun hHeld => ?_)
          clear hRa
          clear hK K
          try simp only [List.getElem_toArray, List.getElem_cons_zero, List.getElem_cons_succ, Act.put, List.setIfInBounds_toArray, List.set_cons_zero, List.set_cons_succ]
          refine wpAnyH_ready (rs := [45]) (by kernel_rfl) (by simp) ?_
          refine AllReadyH.cons rfl (fun K hK => ?_) AllReadyH.nil
          simp only [List.getElem_toArray, List.getElem_cons_zero, List.getElem_cons_succ]
          go_simp
          have hGa : GTab wa := (HT.out.go HRa.out.l.x.be).1.2
          (with_reducible refine (open_ok cq vv yb true Hop wa hGa hv0.1 hv0.2 Hkb.out.1 Hkb.out.2).mono ?_)
          rintro e wb ⟨rfl, hBb⟩
          dsimp only
          have hRb := HRa.out.go hBb
          have HRb := Lib.hid hRb
          refine hK.out _ _ HRb.out (fun hHeld => ?_)
          clear hRb
          clear hK K
          try simp only [List.getElem_toArray, List.getElem_cons_zero, List.getElem_cons_succ, Act.put, List.setIfInBounds_toArray, List.set_cons_zero, List.set_cons_succ]
          refine wpAnyH_take (i := 46) (v := ?_) rfl (by kernel_rfl) (by kernel_rfl) (by kernel_rfl) (fun _ _ _ h => h) (Or.inl ⟨by kernel_rfl, ?_⟩) (by assumption) ?_
          rotate_left
          · intro w hSw
            (try dsimp only at hSw)
            go_simp
            first | done | with_reducible rfl
          simp only [List.getElem_toArray, List.getElem_cons_zero, List.getElem_cons_succ, Act.put, List.setIfInBounds_toArray, List.set_cons_zero, List.set_cons_succ]
          refine wpAnyH_take (i := 47) (v := ?_) rfl (by kernel_rfl) (by kernel_rfl) (by kernel_rfl) (fun _ _ _ h => h) (Or.inl ⟨by kernel_rfl, ?_⟩) (by assumption) ?_
          rotate_left
          · intro w hSw
            (try dsimp only at hSw)
            go_simp
            first | done | with_reducible rfl
          simp only [List.getElem_toArray, List.getElem_cons_zero, List.getElem_cons_succ, Act.put, List.setIfInBounds_toArray, List.set_cons_zero, List.set_cons_succ]
          refine wpAnyH_done (by kernel_rfl) ?_ _
          dsimp only [NoPanic]
          clear hHeld
          have HLb := Lib.hid HRb.out.l
          clear HRb HRa HR9 HRd HPd HSp HR8 HP8 HPV
          go_wp2_with fail
          go_roundw
          case rel => exact ⟨k + 1, by omega, by go_num, HLb.out⟩
          case measure => simp [intOf]; omega
        · obtain rfl : ns = k := by omega
          have t4 : True := trivial
          have hbe := hL.x.be
          go_wp2_with fail
          go_ret
          exact ⟨rfl, hbe⟩
    · clear hok
      obtain rfl : ans = 0 := congrArg DF.ns (hnone he)
      go_upto_region 5 with fail
      have hbe := hJ5.be
      have hne : (e1 != 0) = true := bne_iff_ne.2 he
      go_wp2_with fail
      go_ret
      exact ⟨rfl, bal hbe _⟩
end Go.Proofs.YtipnbcggimpdeaaDoor
