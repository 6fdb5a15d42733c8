/- The walk of DiscloseSigned. -/
import Derived.Test.YtipnbcggimpdeaaDoorQ24
namespace Go.Proofs.YtipnbcggimpdeaaDoor
open Go.RowKit Go.Shelf
set_option linter.unusedVariables false
set_option linter.unusedSimpArgs false
set_option maxRecDepth 100000
/-- The disclosure that a law holds, and the boxed payslip. -/
structure LawAt (w : World) (cs : Array Value) (T base : Nat) (f : Array Value) (F : DF) (com : List Int) (ms : List ShM) (ch : List UInt64) (p : Forks) (W : World) : Prop where
  x : BoxAt w cs W
  d : W.heap[T]? = some (.cells f 38 (0, 0))
  r : DRows W base F com ms ch p
theorem LawAt.go {w W W' : World} {cs : Array Value} {T base : Nat} {f : Array Value} {F : DF} {com : List Int} {ms : List ShM} {ch : List UInt64} {p : Forks} (h : LawAt w cs T base f F com ms ch p W) (k : Below W.heap.size W W') : LawAt w cs T base f F com ms ch p W' :=
  ⟨h.x.go k, (k.block _ (Array.getElem?_eq_some_iff.1 h.d).1).trans h.d, h.r.go k⟩
theorem tl_self (a : ByteArray) : (a.toList == a.toList) = true := by simp
set_option maxHeartbeats 8000000 in
theorem discloseSigned_walk (q : ShtM) (E : Option Addr) (ce : Nat) (sel : List Int) (seed : ByteArray) (h i : Int) (w : World) (hS : ShtOk w q) (hE : Sl w w.heap.size 1 E sel.length (intV sel)) (hle : sel.length ≤ ce ∧ ce ≤ maxLen) (hse : ∀ x ∈ sel, I64 x) (hsd : seed.size ≤ maxLen) (wh : (Lit.int .i64 h).wf = true) (wi : (Lit.int .i64 i).wf = true) (hT : Tabs w) :
    Calls Tryd.prog 8 #[shtV q, .slice E sel.length ce, .string seed, .int .i64 h, .int .i64 i] w fun e w' => e = .returned (.bool true) ∧ Below w.heap.size w w' := by
  obtain ⟨person, month, A, ca, rows, B, cb, bl, root⟩ := q
  obtain ⟨hp, hm, hA, hB, hla, hlb, hrs, hbs⟩ := hS
  dsimp only at hp hm hA hB hla hlb hrs hbs
  obtain ⟨n, hn⟩ : ∃ n, rows.length = n := ⟨_, rfl⟩
  obtain ⟨m, hm'⟩ : ∃ n, bl.length = n := ⟨_, rfl⟩
  obtain ⟨ns, hns⟩ : ∃ n, sel.length = n := ⟨_, rfl⟩
  rw [hn] at hA hla
  rw [hm'] at hB hlb
  rw [hns] at hE hle
  show Calls _ _ #[.agg #[.string person, .int .i64 month, .slice A rows.length ca, .slice B bl.length cb, .int .u64 root.toNat], .slice E sel.length ce, .string seed, .int .i64 h, .int .i64 i] _ _
  rw [hn, hm', hns]
  obtain ⟨e1, he1⟩ : ∃ e, showE person month root rows bl sel seed h i = e := ⟨_, rfl⟩
  obtain ⟨v, hv⟩ : ∃ v, lightB person n m rows ns seed h = v := ⟨_, rfl⟩
  have Hv := Lib.hid hv
  have He1 := Lib.hid he1
  have HA := Lib.hid hA
  have HB := Lib.hid hB
  have HE := Lib.hid hE
  have Hn := Lib.hid (And.intro hn (And.intro hm' hns))
  have HT := Lib.hid hT
  have Hrs := Lib.hid hrs
  have Hbs := Lib.hid hbs
  have Hml : Hid (n ≤ maxLen ∧ m ≤ maxLen ∧ ns ≤ maxLen) := Lib.hid ⟨by omega, by omega, by omega⟩
  have HmI := Lib.hid hm
  clear hA hB hn hm' he1 hv hT hrs hbs hla hlb wh wi hE hle hse hns hm
  go_enter Tryd.func8, Tryd.ntmps8
  go_wp2_with fail
  have hJ := BoxAt.start w #[.string person, .int .i64 month, .slice A n ca, .slice B m cb, .int .u64 root.toNat]
  obtain ⟨V, hV⟩ : ∃ Q : World, Q = w.alloc (.cells #[.string person, .int .i64 month, .slice A n ca, .slice B m cb, .int .u64 root.toNat] 27) := ⟨_, rfl⟩
  rw [← hV] at hJ ⊢
  clear hV
  refine (head36_any V (HT.out.go hJ.be)).mono ?_
  rintro e w1 ⟨rfl, hB1⟩
  have hJ1 := hJ.go hB1
  have k0 : w1.cell? ⟨w.heap.size, 0, none⟩ = some (.string person) := by rw [Lib.cell_of_heap hJ1.b]; rfl
  have k1 : w1.cell? ⟨w.heap.size, 1, none⟩ = some (.int .i64 month) := by rw [Lib.cell_of_heap hJ1.b]; rfl
  have k2 : w1.cell? ⟨w.heap.size, 2, none⟩ = some (.slice A n ca) := by rw [Lib.cell_of_heap hJ1.b]; rfl
  have k3 : w1.cell? ⟨w.heap.size, 3, none⟩ = some (.slice B m cb) := by rw [Lib.cell_of_heap hJ1.b]; rfl
  have k4 : w1.cell? ⟨w.heap.size, 4, none⟩ = some (.int .u64 root.toNat) := by rw [Lib.cell_of_heap hJ1.b]; rfl
  have HJ1 := Lib.hid hJ1
  have hA1 := HA.out.go hJ1.be
  have HA1 := Lib.hid hA1
  clear hB1 hJ hJ1 hA1
  clear V
  go_wp2_with fail
  refine (light36_any person month root A B E ca cb ce n m ns rows seed h v Hn.out.1 Hv Hml.out.1 Hml.out.2.1 Hml.out.2.2 hp hsd w1 HA1.out (fun x hx => ⟨(Hrs.out x hx).1, (Hrs.out x hx).2.1⟩)).mono ?_
  rintro e w2 ⟨rfl, hB2⟩
  have hJ2 := HJ1.out.go hB2
  have HJ2 := Lib.hid hJ2
  clear k0 k1 k2 k3 k4 hB2 hJ2 HJ1 HA1
  clear w1
  cases v with
  | false =>
    have hbe := HJ2.out.be
    go_wp2_with fail
    go_ret
    exact ⟨rfl, hbe⟩
  | true =>
    have hl := Hv.out
    unfold lightB smallB at hl
    simp only [Bool.and_eq_true, decide_eq_true_eq] at hl
    obtain ⟨⟨⟨hn24, hm33, hp40⟩, hall⟩, hns40, hsd80, _⟩ := hl
    have hRs : Hid (∀ x ∈ rows, x.l.size ≤ 70368744177000 ∧ x.r.size ≤ 70368744177000 ∧ I64 x.c) := Lib.hid (fun x hx => by
      have h1 := of_decide_eq_true (List.all_eq_true.1 hall x hx)
      exact ⟨by omega, by omega, (Hrs.out x hx).2.2⟩)
    clear hall
    have k0 : w2.cell? ⟨w.heap.size, 0, none⟩ = some (.string person) := by rw [Lib.cell_of_heap HJ2.out.b]; rfl
    have k1 : w2.cell? ⟨w.heap.size, 1, none⟩ = some (.int .i64 month) := by rw [Lib.cell_of_heap HJ2.out.b]; rfl
    have k2 : w2.cell? ⟨w.heap.size, 2, none⟩ = some (.slice A n ca) := by rw [Lib.cell_of_heap HJ2.out.b]; rfl
    have k3 : w2.cell? ⟨w.heap.size, 3, none⟩ = some (.slice B m cb) := by rw [Lib.cell_of_heap HJ2.out.b]; rfl
    have k4 : w2.cell? ⟨w.heap.size, 4, none⟩ = some (.int .u64 root.toNat) := by rw [Lib.cell_of_heap HJ2.out.b]; rfl
    go_wp2_with fail
    refine (show_any person month root A B E ca cb ce n m ns rows bl sel seed h i e1 He1 w2 (HT.out.go HJ2.out.be) (HA.out.go HJ2.out.be) (HB.out.go HJ2.out.be) (HE.out.go HJ2.out.be) Hn.out.1 Hn.out.2.1 Hn.out.2.2 Hml.out.1 Hml.out.2.1 (by omega) hp hRs.out Hbs.out hsd).mono ?_
    rintro e w5 ⟨⟨ap, am, ar, aC, anc, acc, aS, ans, acs, ahid, abld, asi, aSA, ana, aca, aSB, anb, acb⟩, com, ms, ch, p, rfl, _, hok, hC5⟩
    have hJ5 := HJ2.out.go hC5
    clear k0 k1 k2 k3 k4
    dsimp only [DF.cells]
    by_cases he : e1 = 0
    · subst he
      obtain ⟨his, hdr⟩ := hok rfl
      obtain rfl : person = ap := his.person_.symm
      obtain rfl : month = am := his.month_.symm
      obtain rfl : root = ar := his.root_.symm
      obtain rfl : n = anc := (his.nc_.trans Hn.out.1).symm
      obtain rfl : ana = 18 := his.na_
      obtain rfl : p.length = anb := his.nb_.symm
      have hE0 := He1.out
      unfold showE at hE0
      have hc : validB person month rows bl root = true ∧ selB sel (rows.length : Int) = true ∧ signB seed h i = true := by
        by_cases hc : validB person month rows bl root = true ∧ selB sel (rows.length : Int) = true ∧ signB seed h i = true
        · exact hc
        · rw [if_neg hc] at hE0; cases hE0
      have hsg := hc.2.2
      unfold signB at hsg
      rw [Bool.and_eq_true] at hsg
      obtain ⟨hokB, hii⟩ := hsg
      obtain ⟨hs64, hh0, hh8⟩ := okB_out hokB
      have hii := of_decide_eq_true hii
      have hcom := his.com_
      have hch := his.ch_
      have hpp := his.p_
      have hsi := his.si_
      have hi0 : ((i.toNat : Nat) : Int) = i := Int.toNat_of_nonneg hii.1
      have hh1 : ((h.toNat : Nat) : Int) = h := Int.toNat_of_nonneg hh0
      rw [hi0] at hsi hch hpp
      obtain rfl : i = asi := hsi.symm
      obtain ⟨tx, htx⟩ : ∃ t, dText person month root com = t := ⟨_, rfl⟩
      obtain ⟨dg, hdg⟩ : ∃ d, Dig.sum tx.data.toList = d := ⟨_, rfl⟩
      obtain ⟨key, hkey⟩ : ∃ k, keyD seed h = k := ⟨_, rfl⟩
      have hkE : keyE seed h = 0 := by unfold keyE; rw [if_pos hokB]
      rw [← hcom, htx, hdg] at hch
      have hover : overB key h dg i ch p = true := by
        have := signed_over seed h.toNat (2 ^ h.toNat) i.toNat (by omega) hs64 rfl (by
          have := hii.2
          omega) dg
        unfold keyP at this
        rw [hh1, hi0, hkey, ← hpp, ← hch] at this
        exact this
      have hcl : com.length = n := by rw [hcom, comL_len]; exact Hn.out.1
      have hchl : ch.length = 18 := by rw [hch]; exact On.chains_len _ _ _ _
      have hcb : ∀ x ∈ com, 0 ≤ x ∧ x < 2147483579 := by rw [hcom]; exact comL_bd _ _ _
      have htz : tx.size ≤ maxLen := by
        rw [← htx]
        refine Nat.le_trans (joinS_size _ 1000 ?_) ?_
        · intro s hs
          rcases List.mem_append.1 hs with hs | hs
          · simp only [dHead, List.mem_cons, List.not_mem_nil, or_false] at hs
            rcases hs with rfl | rfl | rfl | rfl
            · decide
            · omega
            · have := itoaB_size month HmI.out.1 HmI.out.2; omega
            · rw [textB_size]; omega
          · obtain ⟨x, hx', rfl⟩ := List.mem_map.1 hs
            have h1 := hcb x hx'
            have := itoaB_size x (by omega) (by omega)
            omega
        · have : (dList person month root com).length = 4 + n := by simp only [dList, dHead, List.length_append, List.length_map, List.length_cons, List.length_nil, hcl]
          rw [this]
          unfold maxLen
          omega
      have Htx := Lib.hid htx
      have Hdg := Lib.hid hdg
      have Hkey := Lib.hid hkey
      have HkE := Lib.hid hkE
      have Hov := Lib.hid hover
      have Hc := Lib.hid (And.intro hcl (And.intro hchl (And.intro hcb htz)))
      have HDR := Lib.hid hdr
      clear hok his hdr hc hE0 hokB hii hcom hch hpp hsi htx hdg hkey hkE hover hcl hchl hcb htz hs64 hh0 hh8 hi0 hh1 hC5
      go_upto_region 5 with fail
      obtain ⟨w6, hw6⟩ : ∃ Q : World, Q = w5.alloc (.cells #[.string person, .int .i64 month, .int .u64 root.toNat, .slice aC n acc, .slice aS ans acs, .int .i64 ahid, .int .i64 abld, .int .i64 i, .slice aSA 18 aca, .slice aSB p.length acb] 38) := ⟨_, rfl⟩
      obtain ⟨T, hT'⟩ : ∃ T, T = w5.heap.size := ⟨_, rfl⟩
      obtain ⟨bs, hbs'⟩ : ∃ b, b = w2.heap.size := ⟨_, rfl⟩
      have hL6 : LawAt w #[.string person, .int .i64 month, .slice A n ca, .slice B m cb, .int .u64 root.toNat] T bs #[.string person, .int .i64 month, .int .u64 root.toNat, .slice aC n acc, .slice aS ans acs, .int .i64 ahid, .int .i64 abld, .int .i64 i, .slice aSA 18 aca, .slice aSB p.length acb] ⟨person, month, root, aC, n, acc, aS, ans, acs, ahid, abld, i, aSA, 18, aca, aSB, p.length, acb⟩ com ms ch p w6 := by
        rw [hw6, hT', hbs']
        exact ⟨hJ5.go (bal (Below.refl _ _) _), World.alloc_heap_new _ _, HDR.out.go (bal (Below.refl _ _) _)⟩
      rw [← hw6, ← hT']
      have HL6 := Lib.hid hL6
      clear hL6 hw6 hT' hbs' hJ5 HDR HJ2
      clear w5
      clear w2
      go_wp2_with fail
      refine (key_any seed h key 0 Hkey HkE w6 hsd (HT.out.go HL6.out.x.be).ot).mono ?_
      rintro e w7 ⟨rfl, hB7⟩
      have hL7 := HL6.out.go hB7
      have HL7 := Lib.hid hL7
      clear hL7 hB7 HL6
      go_upto_region 8 with fail
      have hLd := HL7.out.go (Below.refl w7.heap.size w7).drew
      have HLd := Lib.hid hLd
      have hTd : DTabs w7.drew := HT.out.go hLd.x.be
      have hboxc : ∀ W, LawAt w #[.string person, .int .i64 month, .slice A n ca, .slice B m cb, .int .u64 root.toNat] T bs #[.string person, .int .i64 month, .int .u64 root.toNat, .slice aC n acc, .slice aS ans acs, .int .i64 ahid, .int .i64 abld, .int .i64 i, .slice aSA 18 aca, .slice aSB p.length acb] ⟨person, month, root, aC, n, acc, aS, ans, acs, ahid, abld, i, aSA, 18, aca, aSB, p.length, acb⟩ com ms ch p W → W.cell? ⟨w.heap.size, 0, none⟩ = some (.string person) ∧ W.cell? ⟨w.heap.size, 1, none⟩ = some (.int .i64 month) ∧ W.cell? ⟨w.heap.size, 4, none⟩ = some (.int .u64 root.toNat) := fun W hW => ⟨by rw [Lib.cell_of_heap hW.x.b]; rfl, by rw [Lib.cell_of_heap hW.x.b]; rfl, by rw [Lib.cell_of_heap hW.x.b]; rfl⟩
      have hq1 := tl_self person
      have HcI : Hid (∀ x ∈ com, I64 x) := Lib.hid fun x hx => by
        have := Hc.out.2.2.1 x hx
        exact ⟨by omega, by omega⟩
      refine wp_region_noPanic ?_
      refine wp_region_held_drew (S := fun W => LawAt w #[.string person, .int .i64 month, .slice A n ca, .slice B m cb, .int .u64 root.toNat] T bs #[.string person, .int .i64 month, .int .u64 root.toNat, .slice aC n acc, .slice aS ans acs, .int .i64 ahid, .int .i64 abld, .int .i64 i, .slice aSA 18 aca, .slice aSB p.length acb] ⟨person, month, root, aC, n, acc, aS, ans, acs, ahid, abld, i, aSA, 18, aca, aSB, p.length, acb⟩ com ms ch p W) (by kernel_rfl) HLd.out (fun hHeld => ?_)
      clear hLd
      try simp only [List.append_eq, List.cons_append, List.nil_append]
      refine wpAnyH_take (i := 0) (v := ?_) rfl (by kernel_rfl) (by kernel_rfl) (by kernel_rfl) (fun _ _ _ h => h) (Or.inl ⟨by kernel_rfl, ?_⟩) (by assumption) ?_
      rotate_left
      · intro w hSw
        (try dsimp only at hSw)
        go_simp
        first | done | with_reducible rfl
      simp only [List.getElem_toArray, List.getElem_cons_zero, List.getElem_cons_succ, Act.put, List.setIfInBounds_toArray, List.set_cons_zero, List.set_cons_succ]
      refine wpAnyH_take (i := 1) (v := ?_) rfl (by kernel_rfl) (by kernel_rfl) (by kernel_rfl) (fun _ _ _ h => h) (Or.inl ⟨by kernel_rfl, ?_⟩) (by assumption) ?_
      rotate_left
      · intro w hSw
        (try dsimp only at hSw)
        go_simp
        first | done | with_reducible rfl
      simp only [List.getElem_toArray, List.getElem_cons_zero, List.getElem_cons_succ, Act.put, List.setIfInBounds_toArray, List.set_cons_zero, List.set_cons_succ]
      refine wpAnyH_take (i := 2) (v := ?_) rfl (by kernel_rfl) (by kernel_rfl) (by kernel_rfl) (fun _ _ _ h => h) (Or.inl ⟨by kernel_rfl, ?_⟩) (by assumption) ?_
      rotate_left
      · intro w hSw
        (try dsimp only at hSw)
        go_simp
        first | done | with_reducible rfl
      simp only [List.getElem_toArray, List.getElem_cons_zero, List.getElem_cons_succ, Act.put, List.setIfInBounds_toArray, List.set_cons_zero, List.set_cons_succ]
      refine wpAnyH_take (i := 3) (v := ?_) rfl (by kernel_rfl) (by kernel_rfl) (by kernel_rfl) (fun _ _ _ h => h) (Or.inl ⟨by kernel_rfl, ?_⟩) (by assumption) ?_
      rotate_left
      · intro w hSw
        (try dsimp only at hSw)
        go_simp
        first | done | with_reducible rfl
      simp only [List.getElem_toArray, List.getElem_cons_zero, List.getElem_cons_succ, Act.put, List.setIfInBounds_toArray, List.set_cons_zero, List.set_cons_succ]
      refine wpAnyH_take (i := 4) (v := ?_) rfl (by kernel_rfl) (by kernel_rfl) (by kernel_rfl) (fun _ _ _ h => h) (Or.inl ⟨by kernel_rfl, ?_⟩) (by assumption) ?_
      rotate_left
      · intro w hSw
        (try dsimp only at hSw)
        go_simp
        first | done | with_reducible rfl
      simp only [List.getElem_toArray, List.getElem_cons_zero, List.getElem_cons_succ, Act.put, List.setIfInBounds_toArray, List.set_cons_zero, List.set_cons_succ]
      refine wpAnyH_take (i := 5) (v := ?_) rfl (by kernel_rfl) (by kernel_rfl) (by kernel_rfl) (fun _ _ _ h => h) (Or.inl ⟨by kernel_rfl, ?_⟩) (by assumption) ?_
      rotate_left
      · intro w hSw
        (try dsimp only at hSw)
        go_simp
        first | done | with_reducible rfl
      simp only [List.getElem_toArray, List.getElem_cons_zero, List.getElem_cons_succ, Act.put, List.setIfInBounds_toArray, List.set_cons_zero, List.set_cons_succ]
      refine wpAnyH_take (i := 6) (v := ?_) rfl (by kernel_rfl) (by kernel_rfl) (by kernel_rfl) (fun _ _ _ h => h) (Or.inl ⟨by kernel_rfl, ?_⟩) (by assumption) ?_
      rotate_left
      · intro w hSw
        (try dsimp only at hSw)
        go_simp
        first | done | with_reducible rfl
      simp only [List.getElem_toArray, List.getElem_cons_zero, List.getElem_cons_succ, Act.put, List.setIfInBounds_toArray, List.set_cons_zero, List.set_cons_succ]
      refine wpAnyH_take (i := 7) (v := ?_) rfl (by kernel_rfl) (by kernel_rfl) (by kernel_rfl) (fun _ _ _ h => h) (Or.inl ⟨by kernel_rfl, ?_⟩) (by assumption) ?_
      rotate_left
      · intro w hSw
        (try dsimp only at hSw)
        have z0 : w.cell? ⟨T, 0, none⟩ = some (.string person) := by rw [Lib.cell_of_heap hSw.d]; rfl
        go_simp
        first | done | with_reducible rfl
      simp only [List.getElem_toArray, List.getElem_cons_zero, List.getElem_cons_succ, Act.put, List.setIfInBounds_toArray, List.set_cons_zero, List.set_cons_succ]
      refine wpAnyH_take (i := 8) (v := ?_) rfl (by kernel_rfl) (by kernel_rfl) (by kernel_rfl) (fun _ _ _ h => h) (Or.inl ⟨by kernel_rfl, ?_⟩) (by assumption) ?_
      rotate_left
      · intro w hSw
        (try dsimp only at hSw)
        go_simp
        first | done | with_reducible rfl
      simp only [List.getElem_toArray, List.getElem_cons_zero, List.getElem_cons_succ, Act.put, List.setIfInBounds_toArray, List.set_cons_zero, List.set_cons_succ]
      refine wpAnyH_take (i := 9) (v := ?_) rfl (by kernel_rfl) (by kernel_rfl) (by kernel_rfl) (fun _ _ _ h => h) (Or.inl ⟨by kernel_rfl, ?_⟩) (by assumption) ?_
      rotate_left
      · intro w hSw
        (try dsimp only at hSw)
        obtain ⟨y0, y1, y4⟩ := hboxc w hSw
        go_simp
        first | done | with_reducible rfl
      simp only [List.getElem_toArray, List.getElem_cons_zero, List.getElem_cons_succ, Act.put, List.setIfInBounds_toArray, List.set_cons_zero, List.set_cons_succ]
      refine wpAnyH_take (i := 10) (v := ?_) rfl (by kernel_rfl) (by kernel_rfl) (by kernel_rfl) (fun _ _ _ h => h) (Or.inl ⟨by kernel_rfl, ?_⟩) (by assumption) ?_
      rotate_left
      · intro w hSw
        (try dsimp only at hSw)
        go_simp
        first | done | with_reducible rfl
      simp only [List.getElem_toArray, List.getElem_cons_zero, List.getElem_cons_succ, Act.put, List.setIfInBounds_toArray, List.set_cons_zero, List.set_cons_succ]
      refine wpAnyH_take (i := 11) (v := ?_) rfl (by kernel_rfl) (by kernel_rfl) (by kernel_rfl) (fun _ _ _ h => h) (Or.inl ⟨by kernel_rfl, ?_⟩) (by assumption) ?_
      rotate_left
      · intro w hSw
        (try dsimp only at hSw)
        go_simp
        first | done | with_reducible rfl
      simp only [List.getElem_toArray, List.getElem_cons_zero, List.getElem_cons_succ, Act.put, List.setIfInBounds_toArray, List.set_cons_zero, List.set_cons_succ]
      refine wpAnyH_take (i := 12) (v := ?_) rfl (by kernel_rfl) (by kernel_rfl) (by kernel_rfl) (fun _ _ _ h => h) (Or.inl ⟨by kernel_rfl, ?_⟩) (by assumption) ?_
      rotate_left
      · intro w hSw
        (try dsimp only at hSw)
        go_simp
        first | done | with_reducible rfl
      simp only [List.getElem_toArray, List.getElem_cons_zero, List.getElem_cons_succ, Act.put, List.setIfInBounds_toArray, List.set_cons_zero, List.set_cons_succ]
      refine wpAnyH_take (i := 13) (v := ?_) rfl (by kernel_rfl) (by kernel_rfl) (by kernel_rfl) (fun _ _ _ h => h) (Or.inl ⟨by kernel_rfl, ?_⟩) (by assumption) ?_
      rotate_left
      · intro w hSw
        (try dsimp only at hSw)
        go_simp
        first | done | with_reducible rfl
      simp only [List.getElem_toArray, List.getElem_cons_zero, List.getElem_cons_succ, Act.put, List.setIfInBounds_toArray, List.set_cons_zero, List.set_cons_succ]
      refine wpAnyH_take (i := 14) (v := ?_) rfl (by kernel_rfl) (by kernel_rfl) (by kernel_rfl) (fun _ _ _ h => h) (Or.inl ⟨by kernel_rfl, ?_⟩) (by assumption) ?_
      rotate_left
      · intro w hSw
        (try dsimp only at hSw)
        have z1 : w.cell? ⟨T, 1, none⟩ = some (.int .i64 month) := by rw [Lib.cell_of_heap hSw.d]; rfl
        go_simp
        first | done | with_reducible rfl
      simp only [List.getElem_toArray, List.getElem_cons_zero, List.getElem_cons_succ, Act.put, List.setIfInBounds_toArray, List.set_cons_zero, List.set_cons_succ]
      refine wpAnyH_take (i := 15) (v := ?_) rfl (by kernel_rfl) (by kernel_rfl) (by kernel_rfl) (fun _ _ _ h => h) (Or.inl ⟨by kernel_rfl, ?_⟩) (by assumption) ?_
      rotate_left
      · intro w hSw
        (try dsimp only at hSw)
        go_simp
        first | done | with_reducible rfl
      simp only [List.getElem_toArray, List.getElem_cons_zero, List.getElem_cons_succ, Act.put, List.setIfInBounds_toArray, List.set_cons_zero, List.set_cons_succ]
      refine wpAnyH_take (i := 16) (v := ?_) rfl (by kernel_rfl) (by kernel_rfl) (by kernel_rfl) (fun _ _ _ h => h) (Or.inl ⟨by kernel_rfl, ?_⟩) (by assumption) ?_
      rotate_left
      · intro w hSw
        (try dsimp only at hSw)
        obtain ⟨y0, y1, y4⟩ := hboxc w hSw
        go_simp
        first | done | with_reducible rfl
      simp only [List.getElem_toArray, List.getElem_cons_zero, List.getElem_cons_succ, Act.put, List.setIfInBounds_toArray, List.set_cons_zero, List.set_cons_succ]
      refine wpAnyH_take (i := 17) (v := ?_) rfl (by kernel_rfl) (by kernel_rfl) (by kernel_rfl) (fun _ _ _ h => h) (Or.inl ⟨by kernel_rfl, ?_⟩) (by assumption) ?_
      rotate_left
      · intro w hSw
        (try dsimp only at hSw)
        go_simp
        first | done | with_reducible rfl
      simp only [List.getElem_toArray, List.getElem_cons_zero, List.getElem_cons_succ, Act.put, List.setIfInBounds_toArray, List.set_cons_zero, List.set_cons_succ]
      refine wpAnyH_take (i := 18) (v := ?_) rfl (by kernel_rfl) (by kernel_rfl) (by kernel_rfl) (fun _ _ _ h => h) (Or.inl ⟨by kernel_rfl, ?_⟩) (by assumption) ?_
      rotate_left
      · intro w hSw
        (try dsimp only at hSw)
        go_simp
        first | done | with_reducible rfl
      simp only [List.getElem_toArray, List.getElem_cons_zero, List.getElem_cons_succ, Act.put, List.setIfInBounds_toArray, List.set_cons_zero, List.set_cons_succ]
      refine wpAnyH_take (i := 19) (v := ?_) rfl (by kernel_rfl) (by kernel_rfl) (by kernel_rfl) (fun _ _ _ h => h) (Or.inl ⟨by kernel_rfl, ?_⟩) (by assumption) ?_
      rotate_left
      · intro w hSw
        (try dsimp only at hSw)
        go_simp
        first | done | with_reducible rfl
      simp only [List.getElem_toArray, List.getElem_cons_zero, List.getElem_cons_succ, Act.put, List.setIfInBounds_toArray, List.set_cons_zero, List.set_cons_succ]
      refine wpAnyH_take (i := 20) (v := ?_) rfl (by kernel_rfl) (by kernel_rfl) (by kernel_rfl) (fun _ _ _ h => h) (Or.inl ⟨by kernel_rfl, ?_⟩) (by assumption) ?_
      rotate_left
      · intro w hSw
        (try dsimp only at hSw)
        go_simp
        first | done | with_reducible rfl
      simp only [List.getElem_toArray, List.getElem_cons_zero, List.getElem_cons_succ, Act.put, List.setIfInBounds_toArray, List.set_cons_zero, List.set_cons_succ]
      refine wpAnyH_take (i := 21) (v := ?_) rfl (by kernel_rfl) (by kernel_rfl) (by kernel_rfl) (fun _ _ _ h => h) (Or.inl ⟨by kernel_rfl, ?_⟩) (by assumption) ?_
      rotate_left
      · intro w hSw
        (try dsimp only at hSw)
        have z2 : w.cell? ⟨T, 2, none⟩ = some (.int .u64 root.toNat) := by rw [Lib.cell_of_heap hSw.d]; rfl
        go_simp
        first | done | with_reducible rfl
      simp only [List.getElem_toArray, List.getElem_cons_zero, List.getElem_cons_succ, Act.put, List.setIfInBounds_toArray, List.set_cons_zero, List.set_cons_succ]
      refine wpAnyH_take (i := 22) (v := ?_) rfl (by kernel_rfl) (by kernel_rfl) (by kernel_rfl) (fun _ _ _ h => h) (Or.inl ⟨by kernel_rfl, ?_⟩) (by assumption) ?_
      rotate_left
      · intro w hSw
        (try dsimp only at hSw)
        go_simp
        first | done | with_reducible rfl
      simp only [List.getElem_toArray, List.getElem_cons_zero, List.getElem_cons_succ, Act.put, List.setIfInBounds_toArray, List.set_cons_zero, List.set_cons_succ]
      refine wpAnyH_take (i := 23) (v := ?_) rfl (by kernel_rfl) (by kernel_rfl) (by kernel_rfl) (fun _ _ _ h => h) (Or.inl ⟨by kernel_rfl, ?_⟩) (by assumption) ?_
      rotate_left
      · intro w hSw
        (try dsimp only at hSw)
        obtain ⟨y0, y1, y4⟩ := hboxc w hSw
        go_simp
        first | done | with_reducible rfl
      simp only [List.getElem_toArray, List.getElem_cons_zero, List.getElem_cons_succ, Act.put, List.setIfInBounds_toArray, List.set_cons_zero, List.set_cons_succ]
      refine wpAnyH_take (i := 24) (v := ?_) rfl (by kernel_rfl) (by kernel_rfl) (by kernel_rfl) (fun _ _ _ h => h) (Or.inl ⟨by kernel_rfl, ?_⟩) (by assumption) ?_
      rotate_left
      · intro w hSw
        (try dsimp only at hSw)
        go_simp
        first | done | with_reducible rfl
      simp only [List.getElem_toArray, List.getElem_cons_zero, List.getElem_cons_succ, Act.put, List.setIfInBounds_toArray, List.set_cons_zero, List.set_cons_succ]
      refine wpAnyH_take (i := 25) (v := ?_) rfl (by kernel_rfl) (by kernel_rfl) (by kernel_rfl) (fun _ _ _ h => h) (Or.inl ⟨by kernel_rfl, ?_⟩) (by assumption) ?_
      rotate_left
      · intro w hSw
        (try dsimp only at hSw)
        go_simp
        first | done | with_reducible rfl
      simp only [List.getElem_toArray, List.getElem_cons_zero, List.getElem_cons_succ, Act.put, List.setIfInBounds_toArray, List.set_cons_zero, List.set_cons_succ]
      refine wpAnyH_take (i := 26) (v := ?_) rfl (by kernel_rfl) (by kernel_rfl) (by kernel_rfl) (fun _ _ _ h => h) (Or.inl ⟨by kernel_rfl, ?_⟩) (by assumption) ?_
      rotate_left
      · intro w hSw
        (try dsimp only at hSw)
        go_simp
        first | done | with_reducible rfl
      simp only [List.getElem_toArray, List.getElem_cons_zero, List.getElem_cons_succ, Act.put, List.setIfInBounds_toArray, List.set_cons_zero, List.set_cons_succ]
      refine wpAnyH_take (i := 27) (v := ?_) rfl (by kernel_rfl) (by kernel_rfl) (by kernel_rfl) (fun _ _ _ h => h) (Or.inl ⟨by kernel_rfl, ?_⟩) (by assumption) ?_
      rotate_left
      · intro w hSw
        (try dsimp only at hSw)
        go_simp
        first | done | with_reducible rfl
      simp only [List.getElem_toArray, List.getElem_cons_zero, List.getElem_cons_succ, Act.put, List.setIfInBounds_toArray, List.set_cons_zero, List.set_cons_succ]
      refine wpAnyH_take (i := 28) (v := ?_) rfl (by kernel_rfl) (by kernel_rfl) (by kernel_rfl) (fun _ _ _ h => h) (Or.inl ⟨by kernel_rfl, ?_⟩) (by assumption) ?_
      rotate_left
      · intro w hSw
        (try dsimp only at hSw)
        go_simp
        first | done | with_reducible rfl
      simp only [List.getElem_toArray, List.getElem_cons_zero, List.getElem_cons_succ, Act.put, List.setIfInBounds_toArray, List.set_cons_zero, List.set_cons_succ]
      refine wpAnyH_take (i := 29) (v := ?_) rfl (by kernel_rfl) (by kernel_rfl) (by kernel_rfl) (fun _ _ _ h => h) (Or.inl ⟨by kernel_rfl, ?_⟩) (by assumption) ?_
      rotate_left
      · intro w hSw
        (try dsimp only at hSw)
        have z7 : w.cell? ⟨T, 7, none⟩ = some (.int .i64 i) := by rw [Lib.cell_of_heap hSw.d]; rfl
        go_simp
        first | done | with_reducible rfl
      simp only [List.getElem_toArray, List.getElem_cons_zero, List.getElem_cons_succ, Act.put, List.setIfInBounds_toArray, List.set_cons_zero, List.set_cons_succ]
      refine wpAnyH_take (i := 30) (v := ?_) rfl (by kernel_rfl) (by kernel_rfl) (by kernel_rfl) (fun _ _ _ h => h) (Or.inl ⟨by kernel_rfl, ?_⟩) (by assumption) ?_
      rotate_left
      · intro w hSw
        (try dsimp only at hSw)
        go_simp
        first | done | with_reducible rfl
      simp only [List.getElem_toArray, List.getElem_cons_zero, List.getElem_cons_succ, Act.put, List.setIfInBounds_toArray, List.set_cons_zero, List.set_cons_succ]
      refine wpAnyH_take (i := 31) (v := ?_) rfl (by kernel_rfl) (by kernel_rfl) (by kernel_rfl) (fun _ _ _ h => h) (Or.inl ⟨by kernel_rfl, ?_⟩) (by assumption) ?_
      rotate_left
      · intro w hSw
        (try dsimp only at hSw)
        go_simp
        first | done | with_reducible rfl
      simp only [List.getElem_toArray, List.getElem_cons_zero, List.getElem_cons_succ, Act.put, List.setIfInBounds_toArray, List.set_cons_zero, List.set_cons_succ]
      refine wpAnyH_take (i := 32) (v := ?_) rfl (by kernel_rfl) (by kernel_rfl) (by kernel_rfl) (fun _ _ _ h => h) (Or.inl ⟨by kernel_rfl, ?_⟩) (by assumption) ?_
      rotate_left
      · intro w hSw
        (try dsimp only at hSw)
        go_simp
        first | done | with_reducible rfl
      simp only [List.getElem_toArray, List.getElem_cons_zero, List.getElem_cons_succ, Act.put, List.setIfInBounds_toArray, List.set_cons_zero, List.set_cons_succ]
      refine wpAnyH_take (i := 33) (v := ?_) rfl (by kernel_rfl) (by kernel_rfl) (by kernel_rfl) (fun _ _ _ h => h) (Or.inl ⟨by kernel_rfl, ?_⟩) (by assumption) ?_
      rotate_left
      · intro w hSw
        (try dsimp only at hSw)
        go_simp
        first | done | with_reducible rfl
      simp only [List.getElem_toArray, List.getElem_cons_zero, List.getElem_cons_succ, Act.put, List.setIfInBounds_toArray, List.set_cons_zero, List.set_cons_succ]
      refine wpAnyH_take (i := 34) (v := ?_) rfl (by kernel_rfl) (by kernel_rfl) (by kernel_rfl) (fun _ _ _ h => h) (Or.inl ⟨by kernel_rfl, ?_⟩) (by assumption) ?_
      rotate_left
      · intro w hSw
        (try dsimp only at hSw)
        go_simp
        first | done | with_reducible rfl
      simp only [List.getElem_toArray, List.getElem_cons_zero, List.getElem_cons_succ, Act.put, List.setIfInBounds_toArray, List.set_cons_zero, List.set_cons_succ]
      refine wpAnyH_take (i := 35) (v := ?_) rfl (by kernel_rfl) (by kernel_rfl) (by kernel_rfl) (fun _ _ _ h => h) (Or.inl ⟨by kernel_rfl, ?_⟩) (by assumption) ?_
      rotate_left
      · intro w hSw
        (try dsimp only at hSw)
        go_simp
        first | done | with_reducible rfl
      simp only [List.getElem_toArray, List.getElem_cons_zero, List.getElem_cons_succ, Act.put, List.setIfInBounds_toArray, List.set_cons_zero, List.set_cons_succ]
      refine wpAnyH_take (i := 36) (v := ?_) rfl (by kernel_rfl) (by kernel_rfl) (by kernel_rfl) (fun _ _ _ h => h) (Or.inl ⟨by kernel_rfl, ?_⟩) (by assumption) ?_
      rotate_left
      · intro w hSw
        (try dsimp only at hSw)
        go_simp
        first | done | with_reducible rfl
      simp only [List.getElem_toArray, List.getElem_cons_zero, List.getElem_cons_succ, Act.put, List.setIfInBounds_toArray, List.set_cons_zero, List.set_cons_succ]
      refine wpAnyH_take (i := 37) (v := ?_) rfl (by kernel_rfl) (by kernel_rfl) (by kernel_rfl) (fun _ _ _ h => h) (Or.inl ⟨by kernel_rfl, ?_⟩) (by assumption) ?_
      rotate_left
      · intro w hSw
        (try dsimp only at hSw)
        have z0 : w.cell? ⟨T, 0, none⟩ = some (.string person) := by rw [Lib.cell_of_heap hSw.d]; rfl
        go_simp
        first | done | with_reducible rfl
      simp only [List.getElem_toArray, List.getElem_cons_zero, List.getElem_cons_succ, Act.put, List.setIfInBounds_toArray, List.set_cons_zero, List.set_cons_succ]
      refine wpAnyH_take (i := 38) (v := ?_) rfl (by kernel_rfl) (by kernel_rfl) (by kernel_rfl) (fun _ _ _ h => h) (Or.inl ⟨by kernel_rfl, ?_⟩) (by assumption) ?_
      rotate_left
      · intro w hSw
        (try dsimp only at hSw)
        go_simp
        first | done | with_reducible rfl
      simp only [List.getElem_toArray, List.getElem_cons_zero, List.getElem_cons_succ, Act.put, List.setIfInBounds_toArray, List.set_cons_zero, List.set_cons_succ]
      refine wpAnyH_take (i := 39) (v := ?_) rfl (by kernel_rfl) (by kernel_rfl) (by kernel_rfl) (fun _ _ _ h => h) (Or.inl ⟨by kernel_rfl, ?_⟩) (by assumption) ?_
      rotate_left
      · intro w hSw
        (try dsimp only at hSw)
        have z1 : w.cell? ⟨T, 1, none⟩ = some (.int .i64 month) := by rw [Lib.cell_of_heap hSw.d]; rfl
        go_simp
        first | done | with_reducible rfl
      simp only [List.getElem_toArray, List.getElem_cons_zero, List.getElem_cons_succ, Act.put, List.setIfInBounds_toArray, List.set_cons_zero, List.set_cons_succ]
      refine wpAnyH_take (i := 40) (v := ?_) rfl (by kernel_rfl) (by kernel_rfl) (by kernel_rfl) (fun _ _ _ h => h) (Or.inl ⟨by kernel_rfl, ?_⟩) (by assumption) ?_
      rotate_left
      · intro w hSw
        (try dsimp only at hSw)
        go_simp
        first | done | with_reducible rfl
      simp only [List.getElem_toArray, List.getElem_cons_zero, List.getElem_cons_succ, Act.put, List.setIfInBounds_toArray, List.set_cons_zero, List.set_cons_succ]
      refine wpAnyH_take (i := 41) (v := ?_) rfl (by kernel_rfl) (by kernel_rfl) (by kernel_rfl) (fun _ _ _ h => h) (Or.inl ⟨by kernel_rfl, ?_⟩) (by assumption) ?_
      rotate_left
      · intro w hSw
        (try dsimp only at hSw)
        have z2 : w.cell? ⟨T, 2, none⟩ = some (.int .u64 root.toNat) := by rw [Lib.cell_of_heap hSw.d]; rfl
        go_simp
        first | done | with_reducible rfl
      simp only [List.getElem_toArray, List.getElem_cons_zero, List.getElem_cons_succ, Act.put, List.setIfInBounds_toArray, List.set_cons_zero, List.set_cons_succ]
      refine wpAnyH_take (i := 42) (v := ?_) rfl (by kernel_rfl) (by kernel_rfl) (by kernel_rfl) (fun _ _ _ h => h) (Or.inl ⟨by kernel_rfl, ?_⟩) (by assumption) ?_
      rotate_left
      · intro w hSw
        (try dsimp only at hSw)
        go_simp
        first | done | with_reducible rfl
      simp only [List.getElem_toArray, List.getElem_cons_zero, List.getElem_cons_succ, Act.put, List.setIfInBounds_toArray, List.set_cons_zero, List.set_cons_succ]
      refine wpAnyH_take (i := 43) (v := ?_) rfl (by kernel_rfl) (by kernel_rfl) (by kernel_rfl) (fun _ _ _ h => h) (Or.inl ⟨by kernel_rfl, ?_⟩) (by assumption) ?_
      rotate_left
      · intro w hSw
        (try dsimp only at hSw)
        have z3 : w.cell? ⟨T, 3, none⟩ = some (.slice aC n acc) := by rw [Lib.cell_of_heap hSw.d]; rfl
        go_simp
        first | done | with_reducible rfl
      simp only [List.getElem_toArray, List.getElem_cons_zero, List.getElem_cons_succ, Act.put, List.setIfInBounds_toArray, List.set_cons_zero, List.set_cons_succ]
      refine wpAnyH_take (i := 45) (v := ?_) rfl (by kernel_rfl) (by kernel_rfl) (by kernel_rfl) (fun _ _ _ h => h) (Or.inl ⟨by kernel_rfl, ?_⟩) (by assumption) ?_
      rotate_left
      · intro w hSw
        (try dsimp only at hSw)
        go_simp
        first | done | with_reducible rfl
      simp only [List.getElem_toArray, List.getElem_cons_zero, List.getElem_cons_succ, Act.put, List.setIfInBounds_toArray, List.set_cons_zero, List.set_cons_succ]
      refine wpAnyH_take (i := 46) (v := ?_) rfl (by kernel_rfl) (by kernel_rfl) (by kernel_rfl) (fun _ _ _ h => h) (Or.inl ⟨by kernel_rfl, ?_⟩) (by assumption) ?_
      rotate_left
      · intro w hSw
        (try dsimp only at hSw)
        have z7 : w.cell? ⟨T, 7, none⟩ = some (.int .i64 i) := by rw [Lib.cell_of_heap hSw.d]; rfl
        have z8 : w.cell? ⟨T, 8, none⟩ = some (.slice aSA 18 aca) := by rw [Lib.cell_of_heap hSw.d]; rfl
        have z9 : w.cell? ⟨T, 9, none⟩ = some (.slice aSB p.length acb) := by rw [Lib.cell_of_heap hSw.d]; rfl
        go_simp
        first | done | with_reducible rfl
      simp only [List.getElem_toArray, List.getElem_cons_zero, List.getElem_cons_succ, Act.put, List.setIfInBounds_toArray, List.set_cons_zero, List.set_cons_succ]
      refine wpAnyH_ready (rs := [44]) (by kernel_rfl) (by simp) ?_
      refine AllReadyH.cons rfl (fun K hK => ?_) AllReadyH.nil
      simp only [List.getElem_toArray, List.getElem_cons_zero, List.getElem_cons_succ]
      go_simp
      obtain ⟨C9, cc9, hC9, hSl9⟩ := own_slice HLd.out.r.c
      injection hC9 with u1 u2 u3
      subst u1 u3
      have HSl9 := Lib.hid hSl9
      (with_reducible refine (dtext_any person month root aC acc n com tx Hc.out.1 Htx HmI.out HcI.out (by omega) (by omega) w7.drew hTd HSl9.out).mono ?_)
      rintro e w9 ⟨rfl, hB9⟩
      dsimp only
      have hL9 := HLd.out.go hB9
      have HL9 := Lib.hid hL9
      refine hK.out _ _ HL9.out (fun hHeld => ?_)
      clear hL9
      clear hK K
      try simp only [List.getElem_toArray, List.getElem_cons_zero, List.getElem_cons_succ, Act.put, List.setIfInBounds_toArray, List.set_cons_zero, List.set_cons_succ]
      refine wpAnyH_ready (rs := [47]) (by kernel_rfl) (by simp) ?_
      refine AllReadyH.cons rfl (fun K hK => ?_) AllReadyH.nil
      simp only [List.getElem_toArray, List.getElem_cons_zero, List.getElem_cons_succ]
      go_simp
      obtain ⟨A9, ca9, hA9, hSa9⟩ := own_slice HL9.out.r.sa
      injection hA9 with u1 u2 u3
      subst u1 u3
      obtain ⟨B9, cb9, hB9', hSb9⟩ := own_slice HL9.out.r.sb
      injection hB9' with u1 u2 u3
      subst u1 u3
      have HSa := Lib.hid (And.intro hSa9 hSb9)
      (with_reducible refine (over_at key h tx dg Hdg Hc.out.2.2.2 i aSA aSB aca acb 18 p.length ch p Hc.out.2.1 rfl (by unfold maxLen; omega) true Hov w9 (HT.out.go HL9.out.x.be).ot HSa.out.1 HSa.out.2).mono ?_)
      rintro e wa ⟨rfl, hBa⟩
      dsimp only
      refine hK.out _ _ (HL9.out.go hBa) (fun hHeld => ?_)
      clear hK K
      try simp only [List.getElem_toArray, List.getElem_cons_zero, List.getElem_cons_succ, Act.put, List.setIfInBounds_toArray, List.set_cons_zero, List.set_cons_succ]
      refine wpAnyH_take (i := 48) (v := ?_) rfl (by kernel_rfl) (by kernel_rfl) (by kernel_rfl) (fun _ _ _ h => h) (Or.inl ⟨by kernel_rfl, ?_⟩) (by assumption) ?_
      rotate_left
      · intro w hSw
        (try dsimp only at hSw)
        go_simp
        first | done | with_reducible rfl
      simp only [List.getElem_toArray, List.getElem_cons_zero, List.getElem_cons_succ, Act.put, List.setIfInBounds_toArray, List.set_cons_zero, List.set_cons_succ]
      refine wpAnyH_take (i := 49) (v := ?_) rfl (by kernel_rfl) (by kernel_rfl) (by kernel_rfl) (fun _ _ _ h => h) (Or.inl ⟨by kernel_rfl, ?_⟩) (by assumption) ?_
      rotate_left
      · intro w hSw
        (try dsimp only at hSw)
        go_simp
        first | done | with_reducible rfl
      simp only [List.getElem_toArray, List.getElem_cons_zero, List.getElem_cons_succ, Act.put, List.setIfInBounds_toArray, List.set_cons_zero, List.set_cons_succ]
      refine wpAnyH_done (by kernel_rfl) ?_ _
      dsimp only [NoPanic]
      clear hHeld
      have hbea := (HL9.out.go hBa).x.be
      go_wp2_with fail
      go_ret
      exact ⟨rfl, hbea⟩
    · clear hok
      go_upto_region 5 with fail
      have hbe := hJ5.be
      have hne : (e1 != 0) = true := bne_iff_ne.2 he
      go_wp2_with fail
      go_ret
      exact ⟨rfl, bal hbe _⟩
end Go.Proofs.YtipnbcggimpdeaaDoor
