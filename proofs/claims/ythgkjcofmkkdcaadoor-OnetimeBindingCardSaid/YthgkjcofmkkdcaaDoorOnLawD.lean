/- The walk of OnetimeBinding. -/
import Derived.Test.YthgkjcofmkkdcaaDoorOnOpen
import Derived.Test.YthgkjcofmkkdcaaDoorOnLawA
namespace Go.Proofs.YthgkjcofmkkdcaaDoor
open Go.RowKit Go.Shelf
set_option linter.unusedVariables false
set_option linter.unusedSimpArgs false
set_option maxRecDepth 100000
/-- A signature that lies in a block of its own. -/
structure BoxAt (W : World) (b : Nat) (i : Int) (A : Option Addr) (n ca : Nat) (B : Option Addr) (m cb : Nat) : Prop where
  lt : b < W.heap.size
  c0 : W.cell? ⟨b, 0, none⟩ = some (.int .i64 i)
  c1 : W.cell? ⟨b, 1, none⟩ = some (.slice A n ca)
  c2 : W.cell? ⟨b, 2, none⟩ = some (.slice B m cb)
theorem BoxAt.go {W W' : World} {b : Nat} {i : Int} {A : Option Addr} {n ca : Nat} {B : Option Addr} {m cb : Nat} (h : BoxAt W b i A n ca B m cb) (k : Below W.heap.size W W') : BoxAt W' b i A n ca B m cb :=
  ⟨Nat.lt_of_lt_of_le h.lt k.size, (k.cell (p := ⟨b, 0, none⟩) h.lt).trans h.c0, (k.cell (p := ⟨b, 1, none⟩) h.lt).trans h.c1, (k.cell (p := ⟨b, 2, none⟩) h.lt).trans h.c2⟩
theorem boxAt_of {W : World} {b : Nat} {i : Int} {A : Option Addr} {n ca : Nat} {B : Option Addr} {m cb : Nat} {t : TypeId} {fr : Nat × Nat} (hb : W.heap[b]? = some (.cells #[.int .i64 i, .slice A n ca, .slice B m cb] t fr)) : BoxAt W b i A n ca B m cb :=
  ⟨(Array.getElem?_eq_some_iff.1 hb).1, by rw [Lib.cell_of_heap hb]; rfl, by rw [Lib.cell_of_heap hb]; rfl, by rw [Lib.cell_of_heap hb]; rfl⟩
def collP (o : Option (ByteArray × ByteArray)) : ByteArray × ByteArray := (o.getD (⟨#[]⟩, ⟨#[]⟩))
theorem collP_eq (o : Option (ByteArray × ByteArray)) : collT o = .tuple #[.string (collP o).1, .string (collP o).2, .bool o.isSome] := by
  cases o with
  | none => rfl
  | some x => rfl
theorem collP_size (n i : Int) (a : ByteArray) (p : Forks) (b : ByteArray) (q : Forks) (ha : a.size ≤ 300) (hb : b.size ≤ 300) : (collP (collO n i a p b q)).1.size ≤ maxLen ∧ (collP (collO n i a p b q)).2.size ≤ maxLen := by
  unfold collO
  split
  · have key : ∀ (xs ys : List ByteArray), (∀ x ∈ xs, x.size ≤ maxLen) → (∀ y ∈ ys, y.size ≤ maxLen) → (collP (collF xs ys)).1.size ≤ maxLen ∧ (collP (collF xs ys)).2.size ≤ maxLen := by
      intro xs
      induction xs with
      | nil => intro ys _ _; cases ys <;> exact ⟨Nat.zero_le _, Nat.zero_le _⟩
      | cons x xs ih =>
        intro ys hx hy
        cases ys with
        | nil => exact ⟨Nat.zero_le _, Nat.zero_le _⟩
        | cons y ys =>
          have ih' := ih ys (fun z hz => hx z (List.mem_cons_of_mem _ hz)) (fun z hz => hy z (List.mem_cons_of_mem _ hz))
          rw [collF]
          split
          · exact ih'
          · split
            · exact ⟨hx x (List.mem_cons_self ..), hy y (List.mem_cons_self ..)⟩
            · exact ih'
    exact key _ _ (fun x hx => climbS_size a (by omega) p x hx) (fun x hx => climbS_size b (by omega) q x hx)
  · exact ⟨Nat.zero_le _, Nat.zero_le _⟩
theorem over_yes {root : UInt64} {h : Int} {d : UInt64} {i : Int} {c : List UInt64} {p : Forks} (k : overB root h d i c p = true) : 0 ≤ h ∧ h ≤ 8 ∧ c.length = 18 ∧ verifyB root ((2 ^ h.toNat : Nat) : Int) i (climbB c d 18) p = true := by
  unfold overB at k
  rw [Bool.and_eq_true] at k
  obtain ⟨h1, h2, h3⟩ := of_decide_eq_true k.1
  exact ⟨h1, h2, h3, k.2⟩
theorem bgoa2 {w W : World} (a b : Obj) (k : Below ((w.alloc a).alloc b).heap.size ((w.alloc a).alloc b) W) : Below w.heap.size w W := bgo1 (bgo1 k)
set_option maxHeartbeats 4000000 in
theorem bind_main (u : UInt64) (h : Int) (a b : ByteArray) (i : Int) (A : Option Addr) (n ca : Nat) (c : List UInt64) (B : Option Addr) (m cb : Nat) (p : Forks) (i' : Int) (A' : Option Addr) (n' ca' : Nat) (c' : List UInt64) (B' : Option Addr) (m' cb' : Nat) (p' : Forks) (w : World)
    (ha : a.size ≤ maxLen) (hb : b.size ≤ maxLen) (hn : c.length = n) (hm : p.length = m) (hn' : c'.length = n') (hm' : p'.length = m') (ln : n ≤ maxLen) (lm : m ≤ maxLen) (ln' : n' ≤ maxLen) (lm' : m' ≤ maxLen)
    (hA : Sl w w.heap.size 1 A n (u64V c)) (hB : Sl w w.heap.size 2 B m (forkV p)) (hA' : Sl w w.heap.size 1 A' n' (u64V c')) (hB' : Sl w w.heap.size 2 B' m' (forkV p')) (hT : OTabs w) :
    Calls Tryd.prog 8 #[.int .u64 u.toNat, .int .i64 h, .string a, .string b, .agg #[.int .i64 i, .slice A n ca, .slice B m cb], .agg #[.int .i64 i', .slice A' n' ca', .slice B' m' cb']] w fun e w' => e = .returned (.bool true) ∧ Below w.heap.size w w' := by
  obtain ⟨da, hda⟩ : ∃ d, Dig.sum a.data.toList = d := ⟨_, rfl⟩
  obtain ⟨db, hdb⟩ : ∃ d, Dig.sum b.data.toList = d := ⟨_, rfl⟩
  obtain ⟨us, hus⟩ : ∃ r, usableB ⟨#[]⟩ h [a, b] = r := ⟨_, rfl⟩
  obtain ⟨v1, hv1⟩ : ∃ r, overB u h da i c p = r := ⟨_, rfl⟩
  obtain ⟨v2, hv2⟩ : ∃ r, overB u h db i' c' p' = r := ⟨_, rfl⟩
  have Hda := Lib.hid hda
  have Hdb := Lib.hid hdb
  have Hus := Lib.hid hus
  have Hv1 := Lib.hid hv1
  have Hv2 := Lib.hid hv2
  have HS := Lib.hid (And.intro hA (And.intro hB (And.intro hA' hB')))
  clear hda hdb hus hv1 hv2 hA hB hA' hB'
  go_enter Tryd.func8, Tryd.ntmps8
  go_wp2_with fail
  obtain ⟨W0, hW0⟩ : ∃ W0, W0 = (w.alloc (.cells #[.int .i64 i, .slice A n ca, .slice B m cb] 27)).alloc (.cells #[.int .i64 i', .slice A' n' ca', .slice B' m' cb'] 27) := ⟨_, rfl⟩
  rw [← hW0]
  have hb0 : BoxAt W0 w.heap.size i A n ca B m cb := boxAt_of (by rw [hW0]; exact heap_alloc2_old w _ _)
  have hb1 : BoxAt W0 (w.heap.size + 1) i' A' n' ca' B' m' cb' := boxAt_of (by rw [hW0]; exact heap_alloc2_new w _ _)
  have hBw0 : Below w.heap.size w W0 := by rw [hW0]; exact bal (bal (Below.refl _ _) _) _
  clear hW0
  obtain ⟨p0, hp0⟩ : ∃ q, q = w.heap.size := ⟨_, rfl⟩
  obtain ⟨p1, hp1⟩ : ∃ q, q = w.heap.size + 1 := ⟨_, rfl⟩
  rw [← hp0] at hb0
  rw [← hp1] at hb1
  rw [← hp1, ← hp0]
  clear hp0 hp1
  refine (head_any _ (hT.go hBw0)).mono ?_
  rintro e w1 ⟨rfl, hB1⟩
  have hBw1 := bgo hBw0 hB1
  have hx0 := hb0.go hB1
  have hx1 := hb1.go hB1
  clear hb0 hb1 hB1 hBw0
  go_wp2_with fail
  obtain ⟨W2, hW2⟩ : ∃ W2, W2 = w1.alloc (.cells #[.string a, .string b] 9) := ⟨_, rfl⟩
  have hB12 : Below w1.heap.size w1 W2 := by rw [hW2]; exact bal (Below.refl _ _) _
  have hsl : Sl W2 W2.heap.size 1 (some ⟨w1.heap.size, 0, none⟩) 2 (strV [a, b]) := by rw [hW2]; exact sl_cells (World.alloc_heap_new _ _) rfl rfl
  rw [← hW2]
  clear hW2
  refine (usable_any ⟨#[]⟩ h _ 2 2 [a, b] rfl (by decide) us Hus W2 hsl).mono ?_
  rintro e w' ⟨rfl, rfl⟩
  clear hsl
  have hBw2 := bgo hBw1 hB12
  have X0 := Lib.hid (hx0.go hB12)
  have X1 := Lib.hid (hx1.go hB12)
  clear hx0 hx1 hB12 hBw1
  obtain ⟨k0, k1, k2, k3⟩ := X0.out
  cases us
  · clear k0 k1 k2 k3
    go_wp2_with fail
    go_ret
    exact ⟨rfl, hBw2⟩
  · go_wp2_with fail
    refine (light_any i A B ca cb n m ln lm W2).mono ?_
    rintro e w3 ⟨rfl, hB3⟩
    have hBw3 := bgo hBw2 hB3
    have Y0 := Lib.hid (X0.out.go hB3)
    have Y1 := Lib.hid (X1.out.go hB3)
    clear k0 k1 k2 k3 X0 X1 hBw2 hB3
    obtain ⟨k0, k1, k2, k3⟩ := Y1.out
    by_cases hl1 : n ≤ 30 ∧ m ≤ 30
    · rw [decide_eq_true hl1]
      go_wp2_with fail
      refine (light_any i' A' B' ca' cb' n' m' ln' lm' w3).mono ?_
      rintro e w4 ⟨rfl, hB4⟩
      have hBw4 := bgo hBw3 hB4
      have X0 := Lib.hid (Y0.out.go hB4)
      have X1 := Lib.hid (Y1.out.go hB4)
      clear k0 k1 k2 k3 Y0 Y1 hBw3 hB4
      by_cases hl2 : n' ≤ 30 ∧ m' ≤ 30
      · rw [decide_eq_true hl2]
        obtain ⟨k0, k1, k2, k3⟩ := X0.out
        obtain ⟨q0, q1, q2, q3⟩ := X1.out
        by_cases hii : i = i'
        · subst hii
          have hT4 := hT.go hBw4
          obtain ⟨hA, hB, hA', hB'⟩ := HS.out
          have G := Lib.hid (And.intro (hA.go hBw4) (And.intro (hB.go hBw4) (And.intro (hA'.go hBw4) (hB'.go hBw4))))
          clear hA hB hA' hB' HS
          go_wp2_with fail
          refine (over_at u h a da Hda ha i A B ca cb n m c p hn hm ln v1 Hv1 w4 hT4 G.out.1 G.out.2.1).mono ?_
          rintro e w5 ⟨rfl, hB5⟩
          have hBw5 := bgo hBw4 hB5
          have Y0 := Lib.hid (X0.out.go hB5)
          have Y1 := Lib.hid (X1.out.go hB5)
          obtain ⟨hA, hB, hA', hB'⟩ := G.out
          have F := Lib.hid (And.intro (hA.go hB5) (And.intro (hB.go hB5) (And.intro (hA'.go hB5) (hB'.go hB5))))
          clear hA hB hA' hB' G k0 k1 k2 k3 q0 q1 q2 q3 X0 X1 hBw4 hB5 hT4
          have hT5 := hT.go hBw5
          obtain ⟨q0, q1, q2, q3⟩ := Y1.out
          cases v1
          · go_wp2_with fail
            go_ret
            exact ⟨rfl, hBw5⟩
          · go_wp2_with fail
            refine (over_at u h b db Hdb hb i A' B' ca' cb' n' m' c' p' hn' hm' ln' v2 Hv2 w5 hT5 F.out.2.2.1 F.out.2.2.2).mono ?_
            rintro e w6 ⟨rfl, hB6⟩
            have hBw6 := bgo hBw5 hB6
            have X0 := Lib.hid (Y0.out.go hB6)
            have X1 := Lib.hid (Y1.out.go hB6)
            obtain ⟨hA, hB, hA', hB'⟩ := F.out
            have G := Lib.hid (And.intro (hA.go hB6) (And.intro (hB.go hB6) (And.intro (hA'.go hB6) (hB'.go hB6))))
            clear hA hB hA' hB' F q0 q1 q2 q3 Y0 Y1 hBw5 hB6 hT5
            have hT6 := hT.go hBw6
            cases v2
            · go_wp2_with fail
              go_ret
              exact ⟨rfl, hBw6⟩
            · obtain ⟨hh0, hh8, hc18, hV1⟩ := over_yes Hv1.out
              obtain ⟨_, _, hc18', hV2⟩ := over_yes Hv2.out
              obtain ⟨k, rfl⟩ := Int.eq_ofNat_of_zero_le hh0
              rw [Int.toNat_natCast] at hV1 hV2
              obtain ⟨N, hN⟩ : ∃ N, 2 ^ k = N := ⟨_, rfl⟩
              rw [hN] at hV1 hV2
              have hN2 : N ≤ 256 := by have := pow_le (k : Int) hh8; rw [Int.toNat_natCast, hN] at this; exact this
              have eN : (2 : Int) ^ k = (N : Int) := by rw [← hN, Int.natCast_pow]; rfl
              have hw1 : IntKind.i64.wrap (2 ^ k) = (N : Int) := by rw [eN, IntWalk.i64_in _ (by omega)]
              have hw2 : wrap64 (2 ^ k) = (N : Int) := by rw [eN, IntWalk.wrap64_in _ (by omega)]
              obtain rfl : n = 18 := by omega
              obtain rfl : n' = 18 := by omega
              have hx1 := climbB_size c da 18
              have hy1 := climbB_size c' db 18
              obtain ⟨x, hx⟩ : ∃ x, climbB c da 18 = x := ⟨_, rfl⟩
              obtain ⟨y, hy⟩ : ∃ y, climbB c' db 18 = y := ⟨_, rfl⟩
              rw [hx] at hx1 hV1
              rw [hy] at hy1 hV2
              have Hx := Lib.hid hx
              have Hy := Lib.hid hy
              have HV := Lib.hid (And.intro hV1 hV2)
              clear hx hy hV1 hV2 hN eN
              have hTd6 : OTabs w6.drew := hT6
              have hSa : Sl w6.drew w6.drew.heap.size 1 A 18 (u64V c) := G.out.1
              have hSb : Sl w6.drew w6.drew.heap.size 1 A' 18 (u64V c') := G.out.2.2.1
              obtain ⟨k0, k1, k2, k3⟩ := X0.out
              obtain ⟨q0, q1, q2, q3⟩ := X1.out
              go_upto_region 8 with fail
              refine wp_region_noPanic ?_
              refine wp_region_held_drew (S := fun w' => w'.cell? ⟨p0, 0, none⟩ = some (.int .i64 i) ∧ w'.cell? ⟨p0, 1, none⟩ = some (.slice A 18 ca) ∧ w'.cell? ⟨p0, 2, none⟩ = some (.slice B m cb) ∧ w'.cell? ⟨p1, 0, none⟩ = some (.int .i64 i) ∧ w'.cell? ⟨p1, 1, none⟩ = some (.slice A' 18 ca') ∧ w'.cell? ⟨p1, 2, none⟩ = some (.slice B' m' cb')) (by kernel_rfl) ⟨k1, k2, k3, q1, q2, q3⟩ (fun hHeld => ?_)
              refine wpAnyH_take (i := 0) (v := ?_) rfl (by kernel_rfl) (by kernel_rfl) (by kernel_rfl) (fun _ _ _ h => h) (Or.inl ⟨by kernel_rfl, ?_⟩) (by assumption) ?_
              rotate_left
              · intro w hSw
                (try dsimp only at hSw)
                go_simp
                first | done | with_reducible rfl
              simp only [List.getElem_toArray, List.getElem_cons_zero, List.getElem_cons_succ, Act.put, List.setIfInBounds_toArray, List.set_cons_zero, List.set_cons_succ]
              refine wpAnyH_take (i := 1) (v := ?_) rfl (by kernel_rfl) (by kernel_rfl) (by kernel_rfl) (fun _ _ _ h => h) (Or.inl ⟨by kernel_rfl, ?_⟩) (by assumption) ?_
              rotate_left
              · intro w hSw
                (try dsimp only at hSw)
                go_simp
                first | done | with_reducible rfl
              simp only [List.getElem_toArray, List.getElem_cons_zero, List.getElem_cons_succ, Act.put, List.setIfInBounds_toArray, List.set_cons_zero, List.set_cons_succ]
              refine wpAnyH_take (i := 3) (v := ?_) rfl (by kernel_rfl) (by kernel_rfl) (by kernel_rfl) (fun _ _ _ h => h) (Or.inl ⟨by kernel_rfl, ?_⟩) (by assumption) ?_
              rotate_left
              · intro w hSw
                (try dsimp only at hSw)
                go_simp
                first | done | with_reducible rfl
              simp only [List.getElem_toArray, List.getElem_cons_zero, List.getElem_cons_succ, Act.put, List.setIfInBounds_toArray, List.set_cons_zero, List.set_cons_succ]
              refine wpAnyH_take (i := 4) (v := ?_) rfl (by kernel_rfl) (by kernel_rfl) (by kernel_rfl) (fun _ _ _ h => h) (Or.inl ⟨by kernel_rfl, ?_⟩) (by assumption) ?_
              rotate_left
              · intro w hSw
                (try dsimp only at hSw)
                go_simp
                first | done | with_reducible rfl
              simp only [List.getElem_toArray, List.getElem_cons_zero, List.getElem_cons_succ, Act.put, List.setIfInBounds_toArray, List.set_cons_zero, List.set_cons_succ]
              refine wpAnyH_ready (rs := [2]) (by kernel_rfl) (by simp) ?_
              refine AllReadyH.cons rfl (fun K hK => ?_) AllReadyH.nil
              simp only [List.getElem_toArray, List.getElem_cons_zero, List.getElem_cons_succ]
              go_simp
              (with_reducible refine (lleaf25_any a da Hda ha i A B ca cb m c hc18 x Hx w6.drew hTd6 hSa).mono ?_)
              rintro e w7 ⟨rfl, hB7⟩
              dsimp only
              have hTd7 := hTd6.go hB7
              have hSb7 := hSb.go hB7
              refine hK.out _ _ ⟨(hB7.cell (p := ⟨p0, 0, none⟩) k0).trans k1, (hB7.cell (p := ⟨p0, 1, none⟩) k0).trans k2, (hB7.cell (p := ⟨p0, 2, none⟩) k0).trans k3, (hB7.cell (p := ⟨p1, 0, none⟩) q0).trans q1, (hB7.cell (p := ⟨p1, 1, none⟩) q0).trans q2, (hB7.cell (p := ⟨p1, 2, none⟩) q0).trans q3⟩ (fun hHeld => ?_)
              clear hK K
              try simp only [List.getElem_toArray, List.getElem_cons_zero, List.getElem_cons_succ, Act.put, List.setIfInBounds_toArray, List.set_cons_zero, List.set_cons_succ]
              refine wpAnyH_ready (rs := [5]) (by kernel_rfl) (by simp) ?_
              refine AllReadyH.cons rfl (fun K hK => ?_) AllReadyH.nil
              simp only [List.getElem_toArray, List.getElem_cons_zero, List.getElem_cons_succ]
              go_simp
              (with_reducible refine (lleaf25_any b db Hdb hb i A' B' ca' cb' m' c' hc18' y Hy w7 hTd7 hSb7).mono ?_)
              rintro e w8 ⟨rfl, hB8⟩
              dsimp only
              have hB78 := bgo hB7 hB8
              refine hK.out _ _ ⟨(hB78.cell (p := ⟨p0, 0, none⟩) k0).trans k1, (hB78.cell (p := ⟨p0, 1, none⟩) k0).trans k2, (hB78.cell (p := ⟨p0, 2, none⟩) k0).trans k3, (hB78.cell (p := ⟨p1, 0, none⟩) q0).trans q1, (hB78.cell (p := ⟨p1, 1, none⟩) q0).trans q2, (hB78.cell (p := ⟨p1, 2, none⟩) q0).trans q3⟩ (fun hHeld => ?_)
              clear hK K
              try simp only [List.getElem_toArray, List.getElem_cons_zero, List.getElem_cons_succ, Act.put, List.setIfInBounds_toArray, List.set_cons_zero, List.set_cons_succ]
              refine wpAnyH_take (i := 6) (v := ?_) rfl (by kernel_rfl) (by kernel_rfl) (by kernel_rfl) (fun _ _ _ h => h) (Or.inl ⟨by kernel_rfl, ?_⟩) (by assumption) ?_
              rotate_left
              · intro w hSw
                (try dsimp only at hSw)
                go_simp
                first | done | with_reducible rfl
              simp only [List.getElem_toArray, List.getElem_cons_zero, List.getElem_cons_succ, Act.put, List.setIfInBounds_toArray, List.set_cons_zero, List.set_cons_succ]
              refine wpAnyH_take (i := 7) (v := ?_) rfl (by kernel_rfl) (by kernel_rfl) (by kernel_rfl) (fun _ _ _ h => h) (Or.inl ⟨by kernel_rfl, ?_⟩) (by assumption) ?_
              rotate_left
              · intro w hSw
                (try dsimp only at hSw)
                go_simp
                first | done | with_reducible rfl
              simp only [List.getElem_toArray, List.getElem_cons_zero, List.getElem_cons_succ, Act.put, List.setIfInBounds_toArray, List.set_cons_zero, List.set_cons_succ]
              refine wpAnyH_done (by kernel_rfl) ?_ _
              dsimp only [NoPanic]
              clear hHeld
              have hBw8 := bgo hBw6.drew hB78
              have hB78u : Below w6.heap.size w6 w8 := below_undrew hB78
              have X08 := Lib.hid (X0.out.go hB78u)
              have X18 := Lib.hid (X1.out.go hB78u)
              clear hB78u
              have hSp : Sl w8 w8.heap.size 2 B m (forkV p) := Sl.go (W := w6.drew) G.out.2.1 hB78
              have hSq : Sl w8 w8.heap.size 2 B' m' (forkV p') := Sl.go (W := w6.drew) G.out.2.2.2 hB78
              have F := Lib.hid (And.intro hSp hSq)
              clear k0 k1 k2 k3 q0 q1 q2 q3 X0 X1 G hSa hSb hSb7 hTd7 hTd6 hB7 hB8 hB78 hBw6 hT6 hSp hSq
              by_cases hxy : x = y
              · have hxe : (x.toList == y.toList) = true := by rw [hxy]; simp
                have hxf : x.toList = y.toList := by rw [hxy]
                clear hxy
                go_wp2_with fail
                go_ret
                exact ⟨rfl, hBw8⟩
              · have hxe : (x.toList == y.toList) = false := beq_eq_false_iff_ne.2 (fun e => hxy (bytes_ext e))
                obtain ⟨o, ho⟩ : ∃ o, collO (N : Int) i x p y p' = o := ⟨_, rfl⟩
                have hbd := binding u (N : Int) i x p y p' HV.out.1 HV.out.2
                rw [ho, decide_eq_true hxy, Bool.true_or] at hbd
                have hsz := collP_size (N : Int) i x p y p' (by omega) (by omega)
                rw [ho] at hsz
                cases o with
                | none => cases hbd
                | some z =>
                  obtain ⟨z1, z2⟩ := z
                  obtain ⟨hne, hsum⟩ := coll_some (N : Int) i x p y p' z1 z2 ho
                  have hs1 : z1.size ≤ maxLen := hsz.1
                  have hs2 : z2.size ≤ maxLen := hsz.2
                  have hze : (z1.toList == z2.toList) = false := beq_eq_false_iff_ne.2 (fun e => hne (bytes_ext e))
                  obtain ⟨dz, hdz⟩ : ∃ dz, Dig.sum z1.data.toList = dz := ⟨_, rfl⟩
                  have Hz1 := Lib.hid hdz
                  have Hz2 := Lib.hid (hsum.symm.trans hdz)
                  have Ho := Lib.hid ho
                  have hSpd : Sl w8.drew w8.drew.heap.size 2 B m (forkV p) := F.out.1
                  have hSqd : Sl w8.drew w8.drew.heap.size 2 B' m' (forkV p') := F.out.2
                  have hxs : x.size ≤ 140737488355328 := by omega
                  have hys : y.size ≤ 140737488355328 := by omega
                  obtain ⟨k0, k1, k2, k3⟩ := X08.out
                  obtain ⟨q0, q1, q2, q3⟩ := X18.out
                  clear hne hsum hdz ho hsz hbd hxy
                  go_upto_region 11 with fail
                  refine wp_region_noPanic ?_
                  refine wp_region_held_drew (S := fun w' => w'.cell? ⟨p0, 0, none⟩ = some (.int .i64 i) ∧ w'.cell? ⟨p0, 1, none⟩ = some (.slice A 18 ca) ∧ w'.cell? ⟨p0, 2, none⟩ = some (.slice B m cb) ∧ w'.cell? ⟨p1, 0, none⟩ = some (.int .i64 i) ∧ w'.cell? ⟨p1, 1, none⟩ = some (.slice A' 18 ca') ∧ w'.cell? ⟨p1, 2, none⟩ = some (.slice B' m' cb')) (by kernel_rfl) ⟨k1, k2, k3, q1, q2, q3⟩ (fun hHeld => ?_)
                  refine wpAnyH_take (i := 0) (v := ?_) rfl (by kernel_rfl) (by kernel_rfl) (by kernel_rfl) (fun _ _ _ h => h) (Or.inl ⟨by kernel_rfl, ?_⟩) (by assumption) ?_
                  rotate_left
                  · intro w hSw
                    (try dsimp only at hSw)
                    go_simp
                    first | done | with_reducible rfl
                  simp only [List.getElem_toArray, List.getElem_cons_zero, List.getElem_cons_succ, Act.put, List.setIfInBounds_toArray, List.set_cons_zero, List.set_cons_succ]
                  refine wpAnyH_take (i := 1) (v := .int .i64 (N : Int)) rfl (by kernel_rfl) (by kernel_rfl) (by kernel_rfl) (fun _ _ _ h => h) (Or.inl ⟨by kernel_rfl, ?_⟩) (by assumption) ?_
                  · intro w hSw
                    (try dsimp only at hSw)
                    first | (go_simp; done) | (go_simp; simp [hw1, hw2])
                  simp only [List.getElem_toArray, List.getElem_cons_zero, List.getElem_cons_succ, Act.put, List.setIfInBounds_toArray, List.set_cons_zero, List.set_cons_succ]
                  refine wpAnyH_take (i := 2) (v := ?_) rfl (by kernel_rfl) (by kernel_rfl) (by kernel_rfl) (fun _ _ _ h => h) (Or.inl ⟨by kernel_rfl, ?_⟩) (by assumption) ?_
                  rotate_left
                  · intro w hSw
                    (try dsimp only at hSw)
                    go_simp
                    first | done | with_reducible rfl
                  simp only [List.getElem_toArray, List.getElem_cons_zero, List.getElem_cons_succ, Act.put, List.setIfInBounds_toArray, List.set_cons_zero, List.set_cons_succ]
                  refine wpAnyH_take (i := 3) (v := ?_) rfl (by kernel_rfl) (by kernel_rfl) (by kernel_rfl) (fun _ _ _ h => h) (Or.inl ⟨by kernel_rfl, ?_⟩) (by assumption) ?_
                  rotate_left
                  · intro w hSw
                    (try dsimp only at hSw)
                    go_simp
                    first | done | with_reducible rfl
                  simp only [List.getElem_toArray, List.getElem_cons_zero, List.getElem_cons_succ, Act.put, List.setIfInBounds_toArray, List.set_cons_zero, List.set_cons_succ]
                  refine wpAnyH_take (i := 4) (v := ?_) rfl (by kernel_rfl) (by kernel_rfl) (by kernel_rfl) (fun _ _ _ h => h) (Or.inl ⟨by kernel_rfl, ?_⟩) (by assumption) ?_
                  rotate_left
                  · intro w hSw
                    (try dsimp only at hSw)
                    go_simp
                    first | done | with_reducible rfl
                  simp only [List.getElem_toArray, List.getElem_cons_zero, List.getElem_cons_succ, Act.put, List.setIfInBounds_toArray, List.set_cons_zero, List.set_cons_succ]
                  refine wpAnyH_take (i := 5) (v := ?_) rfl (by kernel_rfl) (by kernel_rfl) (by kernel_rfl) (fun _ _ _ h => h) (Or.inl ⟨by kernel_rfl, ?_⟩) (by assumption) ?_
                  rotate_left
                  · intro w hSw
                    (try dsimp only at hSw)
                    go_simp
                    first | done | with_reducible rfl
                  simp only [List.getElem_toArray, List.getElem_cons_zero, List.getElem_cons_succ, Act.put, List.setIfInBounds_toArray, List.set_cons_zero, List.set_cons_succ]
                  refine wpAnyH_take (i := 6) (v := ?_) rfl (by kernel_rfl) (by kernel_rfl) (by kernel_rfl) (fun _ _ _ h => h) (Or.inl ⟨by kernel_rfl, ?_⟩) (by assumption) ?_
                  rotate_left
                  · intro w hSw
                    (try dsimp only at hSw)
                    go_simp
                    first | done | with_reducible rfl
                  simp only [List.getElem_toArray, List.getElem_cons_zero, List.getElem_cons_succ, Act.put, List.setIfInBounds_toArray, List.set_cons_zero, List.set_cons_succ]
                  refine wpAnyH_take (i := 7) (v := ?_) rfl (by kernel_rfl) (by kernel_rfl) (by kernel_rfl) (fun _ _ _ h => h) (Or.inl ⟨by kernel_rfl, ?_⟩) (by assumption) ?_
                  rotate_left
                  · intro w hSw
                    (try dsimp only at hSw)
                    go_simp
                    first | done | with_reducible rfl
                  simp only [List.getElem_toArray, List.getElem_cons_zero, List.getElem_cons_succ, Act.put, List.setIfInBounds_toArray, List.set_cons_zero, List.set_cons_succ]
                  refine wpAnyH_take (i := 8) (v := ?_) rfl (by kernel_rfl) (by kernel_rfl) (by kernel_rfl) (fun _ _ _ h => h) (Or.inl ⟨by kernel_rfl, ?_⟩) (by assumption) ?_
                  rotate_left
                  · intro w hSw
                    (try dsimp only at hSw)
                    go_simp
                    first | done | with_reducible rfl
                  simp only [List.getElem_toArray, List.getElem_cons_zero, List.getElem_cons_succ, Act.put, List.setIfInBounds_toArray, List.set_cons_zero, List.set_cons_succ]
                  refine wpAnyH_take (i := 9) (v := ?_) rfl (by kernel_rfl) (by kernel_rfl) (by kernel_rfl) (fun _ _ _ h => h) (Or.inl ⟨by kernel_rfl, ?_⟩) (by assumption) ?_
                  rotate_left
                  · intro w hSw
                    (try dsimp only at hSw)
                    go_simp
                    first | done | with_reducible rfl
                  simp only [List.getElem_toArray, List.getElem_cons_zero, List.getElem_cons_succ, Act.put, List.setIfInBounds_toArray, List.set_cons_zero, List.set_cons_succ]
                  refine wpAnyH_ready (rs := [10]) (by kernel_rfl) (by simp) ?_
                  refine AllReadyH.cons rfl (fun K hK => ?_) AllReadyH.nil
                  simp only [List.getElem_toArray, List.getElem_cons_zero, List.getElem_cons_succ]
                  go_simp
                  (with_reducible refine (coll_at B B' cb cb' m m' (N : Int) i x p y p' (some (z1, z2)) w8.drew hm hm' Ho.out hSpd hSqd hxs hys).mono ?_)
                  rintro e w9 ⟨he9, hB9⟩
                  have he9' : e = .returned (.tuple #[.string z1, .string z2, .bool true]) := he9
                  subst he9'
                  dsimp only
                  refine hK.out _ _ ⟨(hB9.cell (p := ⟨p0, 0, none⟩) k0).trans k1, (hB9.cell (p := ⟨p0, 1, none⟩) k0).trans k2, (hB9.cell (p := ⟨p0, 2, none⟩) k0).trans k3, (hB9.cell (p := ⟨p1, 0, none⟩) q0).trans q1, (hB9.cell (p := ⟨p1, 1, none⟩) q0).trans q2, (hB9.cell (p := ⟨p1, 2, none⟩) q0).trans q3⟩ (fun hHeld => ?_)
                  clear hK K
                  try simp only [List.getElem_toArray, List.getElem_cons_zero, List.getElem_cons_succ, Act.put, List.setIfInBounds_toArray, List.set_cons_zero, List.set_cons_succ]
                  refine wpAnyH_take (i := 11) (v := ?_) rfl (by kernel_rfl) (by kernel_rfl) (by kernel_rfl) (fun _ _ _ h => h) (Or.inl ⟨by kernel_rfl, ?_⟩) (by assumption) ?_
                  rotate_left
                  · intro w hSw
                    (try dsimp only at hSw)
                    go_simp
                    first | done | with_reducible rfl
                  simp only [List.getElem_toArray, List.getElem_cons_zero, List.getElem_cons_succ, Act.put, List.setIfInBounds_toArray, List.set_cons_zero, List.set_cons_succ]
                  refine wpAnyH_take (i := 12) (v := ?_) rfl (by kernel_rfl) (by kernel_rfl) (by kernel_rfl) (fun _ _ _ h => h) (Or.inl ⟨by kernel_rfl, ?_⟩) (by assumption) ?_
                  rotate_left
                  · intro w hSw
                    (try dsimp only at hSw)
                    go_simp
                    first | done | with_reducible rfl
                  simp only [List.getElem_toArray, List.getElem_cons_zero, List.getElem_cons_succ, Act.put, List.setIfInBounds_toArray, List.set_cons_zero, List.set_cons_succ]
                  refine wpAnyH_take (i := 13) (v := ?_) rfl (by kernel_rfl) (by kernel_rfl) (by kernel_rfl) (fun _ _ _ h => h) (Or.inl ⟨by kernel_rfl, ?_⟩) (by assumption) ?_
                  rotate_left
                  · intro w hSw
                    (try dsimp only at hSw)
                    go_simp
                    first | done | with_reducible rfl
                  simp only [List.getElem_toArray, List.getElem_cons_zero, List.getElem_cons_succ, Act.put, List.setIfInBounds_toArray, List.set_cons_zero, List.set_cons_succ]
                  refine wpAnyH_take (i := 14) (v := ?_) rfl (by kernel_rfl) (by kernel_rfl) (by kernel_rfl) (fun _ _ _ h => h) (Or.inl ⟨by kernel_rfl, ?_⟩) (by assumption) ?_
                  rotate_left
                  · intro w hSw
                    (try dsimp only at hSw)
                    go_simp
                    first | done | with_reducible rfl
                  simp only [List.getElem_toArray, List.getElem_cons_zero, List.getElem_cons_succ, Act.put, List.setIfInBounds_toArray, List.set_cons_zero, List.set_cons_succ]
                  refine wpAnyH_take (i := 15) (v := ?_) rfl (by kernel_rfl) (by kernel_rfl) (by kernel_rfl) (fun _ _ _ h => h) (Or.inl ⟨by kernel_rfl, ?_⟩) (by assumption) ?_
                  rotate_left
                  · intro w hSw
                    (try dsimp only at hSw)
                    go_simp
                    first | done | with_reducible rfl
                  simp only [List.getElem_toArray, List.getElem_cons_zero, List.getElem_cons_succ, Act.put, List.setIfInBounds_toArray, List.set_cons_zero, List.set_cons_succ]
                  refine wpAnyH_take (i := 16) (v := ?_) rfl (by kernel_rfl) (by kernel_rfl) (by kernel_rfl) (fun _ _ _ h => h) (Or.inl ⟨by kernel_rfl, ?_⟩) (by assumption) ?_
                  rotate_left
                  · intro w hSw
                    (try dsimp only at hSw)
                    go_simp
                    first | done | with_reducible rfl
                  simp only [List.getElem_toArray, List.getElem_cons_zero, List.getElem_cons_succ, Act.put, List.setIfInBounds_toArray, List.set_cons_zero, List.set_cons_succ]
                  refine wpAnyH_take (i := 17) (v := ?_) rfl (by kernel_rfl) (by kernel_rfl) (by kernel_rfl) (fun _ _ _ h => h) (Or.inl ⟨by kernel_rfl, ?_⟩) (by assumption) ?_
                  rotate_left
                  · intro w hSw
                    (try dsimp only at hSw)
                    go_simp
                    first | done | with_reducible rfl
                  simp only [List.getElem_toArray, List.getElem_cons_zero, List.getElem_cons_succ, Act.put, List.setIfInBounds_toArray, List.set_cons_zero, List.set_cons_succ]
                  refine wpAnyH_done (by kernel_rfl) ?_ _
                  dsimp only [NoPanic]
                  clear hHeld
                  have hBw9 := bgo hBw8.drew hB9
                  clear k0 k1 k2 k3 q0 q1 q2 q3 X08 X18 F hSpd hSqd hB9 hBw8
                  go_wp2_with fail
                  refine (sum_at z1 dz _ Hz1 hs1).mono ?_
                  rintro e w' ⟨rfl, rfl⟩
                  go_wp2_with fail
                  refine (sum_at z2 dz _ Hz2 hs2).mono ?_
                  rintro e w' ⟨rfl, rfl⟩
                  go_wp2_with fail
                  go_ret
                  exact ⟨rfl, hBw9⟩
        · have hii' : (i == i') = false := beq_eq_false_iff_ne.2 hii
          have hij : (i != i') = true := by simp [bne, hii']
          go_wp2_with fail
          go_ret
          exact ⟨rfl, hBw4⟩
      · rw [decide_eq_false hl2]
        go_wp2_with fail
        go_ret
        exact ⟨rfl, hBw4⟩
    · rw [decide_eq_false hl1]
      go_wp2_with fail
      go_ret
      exact ⟨rfl, hBw3⟩
theorem onetimeBinding_walk (root h : Int) (a b : ByteArray) (s t : Sgn) (w : World) (wr : (Lit.int .u64 root).wf = true) (wh : (Lit.int .i64 h).wf = true) (ha : a.size ≤ maxLen) (hb : b.size ≤ maxLen) (S : SgnOk w s) (T : SgnOk w t) (hT : OTabs w) :
    Calls Tryd.prog 8 #[.int .u64 root, .int .i64 h, .string a, .string b, sgnV s, sgnV t] w fun e w' => e = .returned (.bool true) ∧ Below w.heap.size w w' := by
  obtain ⟨u, rfl⟩ := u64_of_wf wr
  exact bind_main u h a b s.i s.A s.c.length s.ca s.c s.B s.p.length s.cb s.p t.i t.A t.c.length t.ca t.c t.B t.p.length t.cb t.p w ha hb rfl rfl rfl rfl (Nat.le_trans S.la.1 S.la.2) (Nat.le_trans S.lb.1 S.lb.2) (Nat.le_trans T.la.1 T.la.2) (Nat.le_trans T.lb.1 T.lb.2) S.sa S.sb T.sa T.sb hT
end Go.Proofs.YthgkjcofmkkdcaaDoor
