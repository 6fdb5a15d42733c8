/- The walk of the law package's head. -/
import Derived.Test.YthebahahpkficaaDoorRpNum
namespace Go.Proofs.YthebahahpkficaaDoor
open Go.RowKit
set_option linter.unusedVariables false
/-- The tables that the package reads lie in the world. -/
def Tabs (w : World) : Prop := PTab w ∧ GTab w
theorem Tabs.go {w w' : World} (h : Tabs w) (hb : Below w.heap.size w w') : Tabs w' := ⟨h.1.go hb, h.2.go hb⟩
theorem commit_at (v b c : Int) (hc : Hid (commitI v b = c)) (w : World) (hT : GTab w) (hv0 : 0 ≤ v) (hv1 : v < 1073741789) (hb0 : 0 ≤ b) (hb1 : b < 1073741789) :
    Calls Tryd.prog 17 #[.int .i64 v, .int .i64 b] w fun e w' => e = .returned (.tuple #[.int .i64 c, .int .i64 0]) ∧ Below w.heap.size w w' := by
  rw [← hc.out]
  exact commit_ok v b w hT hv0 hv1 hb0 hb1
theorem prove_at (v blind m : Int) (n : Nat) (seed : ByteArray) (l : List BP) (hl : Hid (proveL v.toNat seed.data.toList blind n = l)) (hm : m = (n : Int)) (w : World) (hT : Tabs w) (hn1 : 1 ≤ n) (hn2 : n ≤ 28) (hv0 : 0 ≤ v) (hv1 : v < ((2 ^ n : Nat) : Int)) (hb0 : 0 ≤ blind) (hb1 : blind < 1073741789) (hs : seed.size ≤ 60) :
    Calls Tryd.prog 10 #[.int .i64 v, .int .i64 blind, .int .i64 m, .string seed] w (ProveEnd w n l) := by
  rw [← hl.out, hm]
  exact prove_ok v blind n seed w hT.1 hT.2 hn1 hn2 hv0 hv1 hb0 hb1 hs
theorem verify_at (commit bits : Int) (n : Nat) (l : List BP) (A : Option Addr) (c : Nat) (r : Bool) (hl : Hid (l.length = n)) (hr : Hid (verifyB commit bits l = r)) (w : World) (hT : PTab w) (hA : Sl w w.heap.size 7 A n (bpsC l)) (hn : n ≤ maxLen) :
    Calls Tryd.prog 15 #[.int .i64 commit, .int .i64 bits, .slice A n c] w fun e w' => e = .returned (.bool r) ∧ Below w.heap.size w w' := by
  have := hl.out
  subst this
  exact verify_any commit bits l A c r hr w hT hA hn
theorem commit_54 : commitI 4 7 ≠ commitI 5 7 := by
  have h4 : commitI 4 7 = ((4 ^ 4 * 9 ^ 7 % Grp.P : Nat) : Int) := commitI_nat 4 7
  have h5 : commitI 5 7 = ((4 ^ 5 * 9 ^ 7 % Grp.P : Nat) : Int) := commitI_nat 5 7
  rw [h4, h5]
  decide
theorem verify_other (c c' bits : Int) (l : List BP) (h : verifyB c bits l = true) (hne : c' ≠ c) : verifyB c' bits l = false := by
  unfold verifyB at h ⊢
  simp only [Bool.and_eq_true, beq_iff_eq] at h
  rw [h.2.2]
  have : (c == c') = false := beq_eq_false_iff_ne.2 (fun e => hne e.symm)
  rw [this]
  simp
theorem verify_len (c bits : Int) (l : List BP) (h : (l.length : Int) ≠ bits) : verifyB c bits l = false := by
  unfold verifyB
  simp [h]
theorem twoB_self (a : BP) : twoB a a = false := by unfold twoB; simp
theorem own_valid {value : Nat} {seed : List UInt8} {blind : Int} {n j : Nat} (h0 : 0 ≤ blind) (h1 : blind < 1073741789) {p : BP} (hp : proofAt value seed blind n j = p) : rightB p = true ∧ (p.e0 + p.e1) % 1073741789 = chalI p.c p.f0 p.f1 := by
  have hv := valid_at value seed blind h0 h1 n j
  rw [hp] at hv
  unfold validB at hv
  simp only [Bool.and_eq_true, beq_iff_eq] at hv
  exact hv
theorem extract_lit (c f0 f1 e0 e1 z0 z1 : Int) (w : World) :
    Calls Tryd.prog 12 #[.agg #[.int .i64 c, .int .i64 f0, .int .i64 f1, .int .i64 e0, .int .i64 e1, .int .i64 z0, .int .i64 z1], .agg #[.int .i64 c, .int .i64 f0, .int .i64 f1, .int .i64 e0, .int .i64 e1, .int .i64 z0, .int .i64 z1]] w fun r w' => r = .returned (.tuple #[.int .i64 0, .int .i64 0, .bool false]) ∧ Below w.heap.size w w' :=
  extract_no ⟨c, f0, f1, e0, e1, z0, z1⟩ ⟨c, f0, f1, e0, e1, z0, z1⟩ (twoB_self _) w
theorem number_at (x : Int) (t : ByteArray) (ht : Hid (itoaB x = t)) (h : 0 ≤ x ∧ x < 2147483579) (w : World) : Calls Tryd.prog 22 #[.int .i64 x] w fun r w' => r = .returned (.string t) ∧ Below w.heap.size w w' := by
  obtain ⟨n, rfl⟩ := Int.eq_ofNat_of_zero_le h.1
  rw [← ht.out]
  exact number_any n (by omega) w
/-- The cells of the first bit proof of a list. -/
theorem first_cells {W : World} {A : Option Addr} {n : Nat} {l : List BP} {B : Nat} (h : Sl W B 7 A n (bpsC l)) (hl : l.length = n) (h0 : 0 < n) : ∃ b off, A = some ⟨b, off, none⟩ ∧ b < B ∧ (W.cell? ⟨b, off, none⟩ = some (.int .i64 (l.getD 0 zeroBP).c) ∧ W.cell? ⟨b, off + 1, none⟩ = some (.int .i64 (l.getD 0 zeroBP).f0) ∧ W.cell? ⟨b, off + 2, none⟩ = some (.int .i64 (l.getD 0 zeroBP).f1) ∧ W.cell? ⟨b, off + 3, none⟩ = some (.int .i64 (l.getD 0 zeroBP).e0) ∧ W.cell? ⟨b, off + 4, none⟩ = some (.int .i64 (l.getD 0 zeroBP).e1) ∧ W.cell? ⟨b, off + 5, none⟩ = some (.int .i64 (l.getD 0 zeroBP).z0) ∧ W.cell? ⟨b, off + 6, none⟩ = some (.int .i64 (l.getD 0 zeroBP).z1)) := by
  obtain ⟨b, off, rfl, hb, hc⟩ := h.2 h0
  have g := fun j (hj : j < 7) (v : Value) (hv : (bpC (l.getD 0 zeroBP))[j]? = some v) => hc j v (by have := bpsC_get l 0 j (by omega) hj; rw [Nat.zero_mul, Nat.zero_add] at this; rw [this]; exact hv)
  exact ⟨b, off, rfl, hb, g 0 (by omega) _ rfl, g 1 (by omega) _ rfl, g 2 (by omega) _ rfl, g 3 (by omega) _ rfl, g 4 (by omega) _ rfl, g 5 (by omega) _ rfl, g 6 (by omega) _ rfl⟩
def seedX : ByteArray := ⟨#[120]⟩
set_option maxHeartbeats 8000000 in
set_option maxRecDepth 100000 in
theorem head_any (w : World) (hT : Tabs w) : Calls Tryd.prog 9 #[] w fun e w' => e = .returned (.bool true) ∧ Below w.heap.size w w' := by
  have HT := Lib.hid hT
  obtain ⟨c, hc⟩ : ∃ c, commitI 5 7 = c := ⟨_, rfl⟩
  obtain ⟨d, hd⟩ : ∃ d, commitI 4 7 = d := ⟨_, rfl⟩
  have hne := commit_54
  rw [hc, hd] at hne
  obtain ⟨l, hl⟩ : ∃ l, proveL (5 : Int).toNat seedX.data.toList 7 3 = l := ⟨_, rfl⟩
  have hll : l.length = 3 := by rw [← hl]; exact proveL_len _ _ _ _
  have hv : verifyB c 3 l = true := by
    rw [← hl, ← hc]
    exact verify_prove 5 seedX.data.toList 7 (by omega) (by omega) 3 (by omega) (by omega) (by decide)
  have hv2 : verifyB d 3 l = false := verify_other c d 3 l hv hne
  have hv3 : verifyB c 4 l = false := verify_len c 4 l (by rw [hll]; decide)
  obtain ⟨p, hp⟩ : ∃ p, l.getD 0 zeroBP = p := ⟨_, rfl⟩
  have hpv : rightB p = true ∧ (p.e0 + p.e1) % 1073741789 = chalI p.c p.f0 p.f1 := by
    refine own_valid (value := 5) (seed := seedX.data.toList) (blind := 7) (n := 3) (j := 0) (by omega) (by omega) ?_
    rw [← hp, ← hl]
    exact (proveL_at _ _ _ _ _ (by omega)).symm
  have HC := Lib.hid hc
  have HD := Lib.hid hd
  have HL := Lib.hid hl
  have HLL := Lib.hid hll
  have HV := Lib.hid hv
  have HV2 := Lib.hid hv2
  have HV3 := Lib.hid hv3
  have HP := Lib.hid hp
  have HPV := Lib.hid hpv
  clear hT hc hd hne hl hll hv hv2 hv3 hp hpv
  go_enter Tryd.func9, Tryd.ntmps9
  go_wp2_with fail
  refine (commit_at 5 7 c HC _ HT.out.2 (by omega) (by omega) (by omega) (by omega)).mono ?_
  rintro e w1 ⟨rfl, hB1⟩
  go_wp2_with fail
  refine (commit_at 4 7 d HD _ (HT.out.go hB1).2 (by omega) (by omega) (by omega) (by omega)).mono ?_
  rintro e w2 ⟨rfl, hB⟩
  have hB2 := bgo hB1 hB
  clear hB1 hB
  go_wp2_with fail
  refine (prove_at 5 7 3 3 seedX l HL rfl _ (HT.out.go hB2) (by omega) (by omega) (by omega) (by decide) (by omega) (by omega) (by decide)).mono ?_
  rintro e w3 ⟨A, cap, rfl, hcap, hcm, hS, hB⟩
  have hB3 := bgo hB2 hB
  have HS := Lib.hid hS
  clear hB2 hB hS
  go_wp2_with fail
  refine (verify_at c 3 3 l A cap true HLL HV _ (HT.out.go hB3).1 HS.out (by decide)).mono ?_
  rintro e w4 ⟨rfl, hB⟩
  have hB4 := bgo hB3 hB
  have HS4 := Lib.hid (HS.out.go hB)
  clear hB3 hB HS
  go_wp2_with fail
  refine (verify_at d 3 3 l A cap false HLL HV2 _ (HT.out.go hB4).1 HS4.out (by decide)).mono ?_
  rintro e w5 ⟨rfl, hB⟩
  have hB5 := bgo hB4 hB
  have HS5 := Lib.hid (HS4.out.go hB)
  clear hB4 hB HS4
  go_wp2_with fail
  refine (verify_at c 4 3 l A cap false HLL HV3 _ (HT.out.go hB5).1 HS5.out (by decide)).mono ?_
  rintro e w6 ⟨rfl, hB⟩
  have hB6 := bgo hB5 hB
  have HS6 := Lib.hid (HS5.out.go hB)
  clear hB5 hB HS5
  go_wp2_with fail
  refine (prove_range 8 7 3 seedX _ (by omega) (by omega) (by decide) (by omega) (by omega)).mono ?_
  rintro e w' ⟨rfl, rfl⟩
  obtain ⟨b, off, rfl, hb, hcells⟩ := first_cells HS6.out HLL.out (by omega)
  rw [HP.out] at hcells
  obtain ⟨pc, f0, f1, e0, e1, z0, z1⟩ := p
  simp only [] at hcells
  obtain ⟨g0, g1, g2, g3, g4, g5, g6⟩ := hcells
  have hrp := right_parts HPV.out.1
  have hch := HPV.out.2
  simp only [] at hrp hch
  obtain ⟨r0, r1, r2, r3, r4, r5, r6⟩ := hrp
  have HCH := Lib.hid hch
  clear hch
  have gb : b < w6.heap.size := hb
  have db : b < w6.drew.heap.size := hb
  have d0 : w6.drew.cell? ⟨b, off, none⟩ = some (.int .i64 pc) := g0
  have d1 : w6.drew.cell? ⟨b, off + 1, none⟩ = some (.int .i64 f0) := g1
  have d2 : w6.drew.cell? ⟨b, off + 2, none⟩ = some (.int .i64 f1) := g2
  have d3 : w6.drew.cell? ⟨b, off + 3, none⟩ = some (.int .i64 e0) := g3
  have d4 : w6.drew.cell? ⟨b, off + 4, none⟩ = some (.int .i64 e1) := g4
  have d5 : w6.drew.cell? ⟨b, off + 5, none⟩ = some (.int .i64 z0) := g5
  have d6 : w6.drew.cell? ⟨b, off + 6, none⟩ = some (.int .i64 z1) := g6
  go_wp2_with fail
  go_region_held3 (fun w' => w'.cell? ⟨b, off, none⟩ = some (.int .i64 pc) ∧ w'.cell? ⟨b, off + 1, none⟩ = some (.int .i64 f0) ∧ w'.cell? ⟨b, off + 2, none⟩ = some (.int .i64 f1) ∧ w'.cell? ⟨b, off + 3, none⟩ = some (.int .i64 e0) ∧ w'.cell? ⟨b, off + 4, none⟩ = some (.int .i64 e1) ∧ w'.cell? ⟨b, off + 5, none⟩ = some (.int .i64 z0) ∧ w'.cell? ⟨b, off + 6, none⟩ = some (.int .i64 z1))
    (go_keep)
    (first
      | (go_at_call 12; (with_reducible refine (extract_lit pc f0 f1 e0 e1 z0 z1 w6.drew).mono ?_); rintro e w7 ⟨rfl, hb7⟩; have k0 := (hb7.cell (p := ⟨b, off, none⟩) db).trans d0; have k1 := (hb7.cell (p := ⟨b, off + 1, none⟩) db).trans d1; have k2 := (hb7.cell (p := ⟨b, off + 2, none⟩) db).trans d2; have k3 := (hb7.cell (p := ⟨b, off + 3, none⟩) db).trans d3; have k4 := (hb7.cell (p := ⟨b, off + 4, none⟩) db).trans d4; have k5 := (hb7.cell (p := ⟨b, off + 5, none⟩) db).trans d5; have k6 := (hb7.cell (p := ⟨b, off + 6, none⟩) db).trans d6; have kb := Nat.lt_of_lt_of_le db hb7.size))
  have hB7 := bgo hB6 (below_undrew hb7)
  clear hB6 hb7 d0 d1 d2 d3 d4 d5 d6 db g0 g1 g2 g3 g4 g5 g6 gb hb HS6
  obtain ⟨tc, htc⟩ : ∃ t, itoaB pc = t := ⟨_, rfl⟩
  obtain ⟨t0, ht0⟩ : ∃ t, itoaB f0 = t := ⟨_, rfl⟩
  obtain ⟨t1, ht1⟩ : ∃ t, itoaB f1 = t := ⟨_, rfl⟩
  have lc := itoaB_size pc (by omega) (by omega)
  have l0 := itoaB_size f0 (by omega) (by omega)
  have l1 := itoaB_size f1 (by omega) (by omega)
  rw [htc] at lc
  rw [ht0] at l0
  rw [ht1] at l1
  obtain ⟨dd, hdd⟩ : ∃ dd, Dig.sum ((⟨#[99, 32]⟩ : ByteArray) ++ tc ++ ⟨#[32]⟩ ++ t0 ++ ⟨#[32]⟩ ++ t1).data.toList = dd := ⟨_, rfl⟩
  obtain ⟨v, hv⟩ : ∃ v, chalI pc f0 f1 = v := ⟨_, rfl⟩
  have hvd : modQ dd = v := by
    rw [← hv, ← hdd, ← htc, ← ht0, ← ht1]
    unfold chalI chText
    congr 2
  have hvb := modQ_bd dd
  rw [hvd] at hvb
  have hmod := modQ_eq dd v (Lib.hid hvd)
  have hsum : (e0 + e1) % 1073741789 = v := by rw [← hv]; exact HCH.out
  have HTC := Lib.hid htc
  have HT0 := Lib.hid ht0
  have HT1 := Lib.hid ht1
  have HDD := Lib.hid hdd
  have hss : ((⟨#[99, 32]⟩ : ByteArray) ++ tc ++ ⟨#[32]⟩ ++ t0 ++ ⟨#[32]⟩ ++ t1).size ≤ maxLen := by
    simp only [app_size]
    show 2 + tc.size + 1 + t0.size + 1 + t1.size ≤ _
    unfold maxLen; omega
  have n1 : ¬ (9223372036854775807 < 2 + tc.size) := by omega
  have n2 : ¬ (9223372036854775807 < 2 + tc.size + 1) := by omega
  have n3 : ¬ (9223372036854775807 < 2 + tc.size + 1 + t0.size) := by omega
  have n4 : ¬ (9223372036854775807 < 2 + tc.size + 1 + t0.size + 1) := by omega
  have n5 : ¬ (9223372036854775807 < 2 + tc.size + 1 + t0.size + 1 + t1.size) := by omega
  have hwr : IntKind.i64.wrap (e0 + e1) = e0 + e1 := IntWalk.i64_in _ (by omega)
  have htm : (e0 + e1).tmod 1073741789 = v := by rw [Int.tmod_eq_emod_of_nonneg (by omega)]; exact hsum
  have htm2 : ((dd.toNat : Int)).tmod 1073741789 = v := by rw [Int.tmod_eq_emod_of_nonneg (Int.natCast_nonneg _)]; exact hmod
  have hwv : IntKind.i64.wrap v = v := IntWalk.i64_in _ (by omega)
  have db : b < w7.drew.heap.size := kb
  have d0 : w7.drew.cell? ⟨b, off, none⟩ = some (.int .i64 pc) := k0
  have d1 : w7.drew.cell? ⟨b, off + 1, none⟩ = some (.int .i64 f0) := k1
  have d2 : w7.drew.cell? ⟨b, off + 2, none⟩ = some (.int .i64 f1) := k2
  have d3 : w7.drew.cell? ⟨b, off + 3, none⟩ = some (.int .i64 e0) := k3
  have d4 : w7.drew.cell? ⟨b, off + 4, none⟩ = some (.int .i64 e1) := k4
  have d5 : w7.drew.cell? ⟨b, off + 5, none⟩ = some (.int .i64 z0) := k5
  have d6 : w7.drew.cell? ⟨b, off + 6, none⟩ = some (.int .i64 z1) := k6
  clear htc ht0 ht1 hdd hv hvd hmod hsum HCH
  go_wp2_with fail
  go_region_held3 (fun w' => w'.cell? ⟨b, off, none⟩ = some (.int .i64 pc) ∧ w'.cell? ⟨b, off + 1, none⟩ = some (.int .i64 f0) ∧ w'.cell? ⟨b, off + 2, none⟩ = some (.int .i64 f1) ∧ w'.cell? ⟨b, off + 3, none⟩ = some (.int .i64 e0) ∧ w'.cell? ⟨b, off + 4, none⟩ = some (.int .i64 e1) ∧ w'.cell? ⟨b, off + 5, none⟩ = some (.int .i64 z0) ∧ w'.cell? ⟨b, off + 6, none⟩ = some (.int .i64 z1))
    (go_keep)
    (first
      | (go_at_call 22; (with_reducible refine (number_at pc tc HTC (by omega) w7.drew).mono ?_); rintro e w8 ⟨rfl, hb8⟩; have p0 := (hb8.cell (p := ⟨b, off, none⟩) db).trans d0; have p1 := (hb8.cell (p := ⟨b, off + 1, none⟩) db).trans d1; have p2 := (hb8.cell (p := ⟨b, off + 2, none⟩) db).trans d2; have p3 := (hb8.cell (p := ⟨b, off + 3, none⟩) db).trans d3; have p4 := (hb8.cell (p := ⟨b, off + 4, none⟩) db).trans d4; have p5 := (hb8.cell (p := ⟨b, off + 5, none⟩) db).trans d5; have p6 := (hb8.cell (p := ⟨b, off + 6, none⟩) db).trans d6; have pb := Nat.lt_of_lt_of_le db hb8.size)
      | (go_at_call 22; (with_reducible refine (number_at f0 t0 HT0 (by omega) w8).mono ?_); rintro e w9 ⟨rfl, hb9⟩; have q0 := (hb9.cell (p := ⟨b, off, none⟩) pb).trans p0; have q1 := (hb9.cell (p := ⟨b, off + 1, none⟩) pb).trans p1; have q2 := (hb9.cell (p := ⟨b, off + 2, none⟩) pb).trans p2; have q3 := (hb9.cell (p := ⟨b, off + 3, none⟩) pb).trans p3; have q4 := (hb9.cell (p := ⟨b, off + 4, none⟩) pb).trans p4; have q5 := (hb9.cell (p := ⟨b, off + 5, none⟩) pb).trans p5; have q6 := (hb9.cell (p := ⟨b, off + 6, none⟩) pb).trans p6; have qb := Nat.lt_of_lt_of_le pb hb9.size)
      | (go_at_call 22; (with_reducible refine (number_at f1 t1 HT1 (by omega) w9).mono ?_); rintro e wa ⟨rfl, hba⟩; have x0 := (hba.cell (p := ⟨b, off, none⟩) qb).trans q0; have x1 := (hba.cell (p := ⟨b, off + 1, none⟩) qb).trans q1; have x2 := (hba.cell (p := ⟨b, off + 2, none⟩) qb).trans q2; have x3 := (hba.cell (p := ⟨b, off + 3, none⟩) qb).trans q3; have x4 := (hba.cell (p := ⟨b, off + 4, none⟩) qb).trans q4; have x5 := (hba.cell (p := ⟨b, off + 5, none⟩) qb).trans q5; have x6 := (hba.cell (p := ⟨b, off + 6, none⟩) qb).trans q6; have xb := Nat.lt_of_lt_of_le qb hba.size)
      | (go_at_call 21; (with_reducible refine (sum_at _ dd HDD wa hss).mono ?_); rintro e wb ⟨rfl, rfl⟩))
  have hBa := bgo hB7 (bgo (below_undrew hb8) (bgo hb9 hba))
  clear hwr htm htm2 hwv
  go_wp2
  go_ret
  exact ⟨by simp, hBa⟩
end Go.Proofs.YthebahahpkficaaDoor
