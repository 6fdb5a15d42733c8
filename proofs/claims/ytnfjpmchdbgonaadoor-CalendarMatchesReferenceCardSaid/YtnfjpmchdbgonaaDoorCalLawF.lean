/- The walk of CalendarMatchesReference. -/
import Derived.Test.YtnfjpmchdbgonaaDoorCalLawE
import Derived.Test.YtnfjpmchdbgonaaDoorCalBoth
namespace Go.Proofs.YtnfjpmchdbgonaaDoor
open Go.RowKit Go.Sort Go.ChangeShapes Go.WideShapes Go.ChangeAt
set_option linter.unusedVariables false
set_option maxRecDepth 100000 in
set_option maxHeartbeats 8000000 in
theorem calendarMatchesReference_walk (day a b c months : Int) (text : ByteArray) (w : World) (hday : (Lit.int .i64 day).wf = true) (ha : (Lit.int .i64 a).wf = true) (hb : (Lit.int .i64 b).wf = true) (hc : (Lit.int .i64 c).wf = true) (hmonths : (Lit.int .i64 months).wf = true) (htext : text.size ≤ maxLen) (hT : Tabs w) :
    Calls Tryd.prog 3 #[.int .i64 day, .agg #[.int .i64 a, .int .i64 b, .int .i64 c], .int .i64 months, .string text] w fun e w' => e = .returned (.bool true) ∧ Below w.heap.size w w' := by
  replace hday := i64_b hday
  replace hmonths := i64_b hmonths
  replace ha := i64_b ha
  replace hb := i64_b hb
  replace hc := i64_b hc
  unfold maxLen at htext
  obtain ⟨n, hn⟩ : ∃ n, pickV day 36525 = n := ⟨_, rfl⟩
  have hn1 : n < 36525 := by rw [← hn]; exact pickV_lt _ _ (by omega)
  obtain ⟨p0, hp0⟩ : ∃ p, pickV a 101 = p := ⟨_, rfl⟩
  have hp0l : p0 < 101 := by rw [← hp0]; exact pickV_lt _ _ (by omega)
  obtain ⟨p1, hp1⟩ : ∃ p, pickV b 14 = p := ⟨_, rfl⟩
  have hp1l : p1 < 14 := by rw [← hp1]; exact pickV_lt _ _ (by omega)
  obtain ⟨p2, hp2⟩ : ∃ p, pickV c 33 = p := ⟨_, rfl⟩
  have hp2l : p2 < 33 := by rw [← hp2]; exact pickV_lt _ _ (by omega)
  obtain ⟨q, hq⟩ : ∃ p, pickV months 1200 = p := ⟨_, rfl⟩
  have hql : q < 1200 := by rw [← hq]; exact pickV_lt _ _ (by omega)
  have HT := Lib.hid hT
  have F := Lib.hid (And.intro hn (And.intro hp0 (And.intro hp1 (And.intro hp2 hq))))
  clear hT hn hp0 hp1 hp2 hq
  go_enter Tryd.func3, Tryd.ntmps3
  go_wp2_with fail
  refine (head_any _ (HT.out.go (bal (Below.refl _ _) _))).mono ?_
  rintro e w1 ⟨rfl, hB⟩
  have hz1 : w.heap.size < w1.heap.size := by have := hB.size; simp at this; omega
  have c0 : w1.cell? ⟨w.heap.size, 0, none⟩ = some (.int .i64 a) := (hB.cell (p := ⟨w.heap.size, 0, none⟩) (by simp)).trans (by simp [go_sem])
  have c1 : w1.cell? ⟨w.heap.size, 1, none⟩ = some (.int .i64 b) := (hB.cell (p := ⟨w.heap.size, 1, none⟩) (by simp)).trans (by simp [go_sem])
  have c2 : w1.cell? ⟨w.heap.size, 2, none⟩ = some (.int .i64 c) := (hB.cell (p := ⟨w.heap.size, 2, none⟩) (by simp)).trans (by simp [go_sem])
  have hB1 := bgo (bal (Below.refl _ _) _) hB
  have C := Lib.hid (And.intro hz1 (And.intro c0 (And.intro c1 c2)))
  clear hB hz1 c0 c1 c2
  go_wp2_with fail
  refine (pick_any day 36525 36525 rfl (by omega) (by omega) hday n F.out.1 _).mono ?_
  rintro e w' ⟨rfl, rfl⟩
  go_wp2_with fail
  obtain ⟨w3, hw3⟩ : ∃ w3, w3 = w1.alloc (.cells #[.int .i64 day, .int .i64 (n : Int)] 3) := ⟨_, rfl⟩
  rw [← hw3]
  have hA3 : Below w1.heap.size w1 w3 := by rw [hw3]; exact bal (Below.refl _ _) _
  have hB3 : Below w.heap.size w w3 := bgo hB1 hA3
  have hz3 : w1.heap.size < w3.heap.size := by rw [hw3]; simp
  have hc0 : w3.cell? ⟨w1.heap.size, 0, none⟩ = some (.int .i64 day) := by rw [hw3]; simp [go_sem]
  have hc1 : w3.cell? ⟨w1.heap.size, 1, none⟩ = some (.int .i64 (n : Int)) := by rw [hw3]; simp [go_sem]
  have G := Lib.hid (And.intro hz3 (And.intro hc0 hc1))
  clear hw3 hz3 hc0 hc1
  go_loopw [9, 39] (fun up i wr => ∃ k : Nat, k ≤ 2 ∧ up = .bool true ∧ i = .int .i64 (k : Int) ∧ Below w3.heap.size w3 wr) (fun _ i _ => 2 - (intOf i).toNat)
  case atStart => exact ⟨0, by omega, rfl, rfl, Below.refl _ _⟩
  case round =>
    obtain ⟨k, hk, rfl, rfl, hB⟩ := hrel
    by_cases hk2 : k < 2
    · obtain ⟨x, hx⟩ : ∃ x : Int, wr.cell? ⟨w1.heap.size, k, none⟩ = some (.int .i64 x) := by
        rcases (show k = 0 ∨ k = 1 by omega) with rfl | rfl
        · exact ⟨_, (hB.cell (p := ⟨w1.heap.size, 0, none⟩) G.out.1).trans G.out.2.1⟩
        · exact ⟨_, (hB.cell (p := ⟨w1.heap.size, 1, none⟩) G.out.1).trans G.out.2.2⟩
      have hk2' : (k : Int) < 2 := by omega
      have HBn := Lib.hid (show ∀ W : World, Below w3.heap.size w3 W → Tabs W from fun W h => HT.out.go (bgo hB3 h))
      obtain ⟨y, m, d, hD1⟩ := both_date x
      obtain ⟨i1, e1, hL1⟩ := both_later x months
      obtain ⟨v1, hV1⟩ := both_weekday x
      obtain ⟨v2, hM1⟩ := both_month x
      obtain ⟨t1, hT1⟩ := both_text x
      obtain ⟨v3, hF1⟩ := both_first x
      obtain ⟨v4, hN1⟩ := both_length x
      have D := Lib.hid (And.intro hD1 (And.intro hL1 (And.intro hV1 (And.intro hM1 (And.intro hT1 (And.intro hF1 hN1))))))
      clear hD1 hL1 hV1 hM1 hT1 hF1 hN1
      go_wp2_with fail
      refine (D.out.1.1 _ (HBn.out _ hB).1).mono ?_
      rintro e w4 ⟨rfl, hB'⟩
      have hB4 := bgo hB hB'
      clear hB hB' hx
      go_wp2_with fail
      refine (D.out.1.2 _).mono ?_
      rintro e w' ⟨rfl, rfl⟩
      go_wp2_with fail
      refine (D.out.2.1.1 _ (HBn.out _ hB4).1).mono ?_
      rintro e w5 ⟨rfl, hB'⟩
      have hB5 := bgo hB4 hB'
      clear hB4 hB'
      go_wp2_with fail
      refine (D.out.2.1.2 _).mono ?_
      rintro e w' ⟨rfl, rfl⟩
      go_wp2_with fail
      refine (D.out.2.2.1.1 _).mono ?_
      rintro e w' ⟨rfl, rfl⟩
      go_wp2_with fail
      refine (D.out.2.2.1.2 _).mono ?_
      rintro e w' ⟨rfl, rfl⟩
      go_wp2_with fail
      refine (D.out.2.2.2.1.1 _ (HBn.out _ hB5).1).mono ?_
      rintro e w6 ⟨rfl, hB'⟩
      have hB6 := bgo hB5 hB'
      clear hB5 hB'
      go_wp2_with fail
      refine (D.out.2.2.2.1.2 _).mono ?_
      rintro e w' ⟨rfl, rfl⟩
      go_wp2_with fail
      refine (D.out.2.2.2.2.1.1 _ (HBn.out _ hB6)).mono ?_
      rintro e w7 ⟨rfl, hB'⟩
      have hB7 := bgo hB6 hB'
      clear hB6 hB'
      go_wp2_with fail
      refine (D.out.2.2.2.2.1.2 _).mono ?_
      rintro e w8 ⟨rfl, hB'⟩
      have hB8 := bgo hB7 hB'
      clear hB7 hB'
      go_wp2_with fail
      refine (D.out.2.2.2.2.2.1.1 _ (HBn.out _ hB8).1).mono ?_
      rintro e w9 ⟨rfl, hB'⟩
      have hB9 := bgo hB8 hB'
      clear hB8 hB'
      go_wp2_with fail
      refine (D.out.2.2.2.2.2.1.2 _).mono ?_
      rintro e w' ⟨rfl, rfl⟩
      go_wp2_with fail
      refine (D.out.2.2.2.2.2.2.1 _ (HBn.out _ hB9).1).mono ?_
      rintro e wa ⟨rfl, hB'⟩
      have hBa := bgo hB9 hB'
      clear hB9 hB'
      go_wp2_with fail
      refine (D.out.2.2.2.2.2.2.2 _).mono ?_
      rintro e w' ⟨rfl, rfl⟩
      go_wp2_with fail
      go_roundw
      case rel => exact ⟨k + 1, by omega, rfl, by go_num, hBa⟩
      case measure => simp [intOf]; omega
    · have hA := bgo hA3 hB
      have hBw := bgo hB3 hB
      have c0 := (hA.cell (p := ⟨w.heap.size, 0, none⟩) C.out.1).trans C.out.2.1
      have c1 := (hA.cell (p := ⟨w.heap.size, 1, none⟩) C.out.1).trans C.out.2.2.1
      have c2 := (hA.cell (p := ⟨w.heap.size, 2, none⟩) C.out.1).trans C.out.2.2.2
      have hwr : IntKind.i64.wrap (2000 + (p0 : Int)) = 2000 + (p0 : Int) := IntWalk.i64_in _ (by omega)
      clear hA hB hB3 hA3 hB1 G C
      go_wp2_with fail
      go_region_held3 (fun w' => w'.cell? ⟨w.heap.size, 0, none⟩ = some (.int .i64 a) ∧ w'.cell? ⟨w.heap.size, 1, none⟩ = some (.int .i64 b) ∧ w'.cell? ⟨w.heap.size, 2, none⟩ = some (.int .i64 c))
        (go_keep)
        (first
          | (go_at_call 10; (with_reducible refine (pick_any a 101 101 rfl (by omega) (by omega) ha p0 F.out.2.1 _).mono ?_); rintro e w' ⟨rfl, rfl⟩)
          | (go_at_call 10; (with_reducible refine (pick_any b 14 14 rfl (by omega) (by omega) hb p1 F.out.2.2.1 _).mono ?_); rintro e w' ⟨rfl, rfl⟩)
          | (go_at_call 10; (with_reducible refine (pick_any c 33 33 rfl (by omega) (by omega) hc p2 F.out.2.2.2.1 _).mono ?_); rintro e w' ⟨rfl, rfl⟩))
      all_goals
        clear hwr c0 c1 c2
        go_wp2_with fail
        obtain ⟨w4, hw4⟩ : ∃ w4, w4 = (wr.alloc (.cells #[.int .i64 a, .int .i64 b, .int .i64 c, .int .i64 (2000 + (p0 : Int)), .int .i64 (p1 : Int), .int .i64 (p2 : Int)] 22)).drew := ⟨_, rfl⟩
        rw [← hw4]
        have hB4 : Below w.heap.size w w4 := by rw [hw4]; exact (bal hBw _).drew
        have hz4 : wr.heap.size < w4.heap.size := by rw [hw4]; show wr.heap.size < (wr.alloc _).heap.size; simp
        have k0 : w4.cell? ⟨wr.heap.size, 0, none⟩ = some (.int .i64 a) := by rw [hw4]; simp [go_sem]
        have k1 : w4.cell? ⟨wr.heap.size, 1, none⟩ = some (.int .i64 b) := by rw [hw4]; simp [go_sem]
        have k2 : w4.cell? ⟨wr.heap.size, 2, none⟩ = some (.int .i64 c) := by rw [hw4]; simp [go_sem]
        have k3 : w4.cell? ⟨wr.heap.size, 3, none⟩ = some (.int .i64 (2000 + (p0 : Int))) := by rw [hw4]; simp [go_sem]
        have k4 : w4.cell? ⟨wr.heap.size, 4, none⟩ = some (.int .i64 (p1 : Int)) := by rw [hw4]; simp [go_sem]
        have k5 : w4.cell? ⟨wr.heap.size, 5, none⟩ = some (.int .i64 (p2 : Int)) := by rw [hw4]; simp [go_sem]
        have G := Lib.hid (And.intro hz4 (And.intro k0 (And.intro k1 (And.intro k2 (And.intro k3 (And.intro k4 k5))))))
        clear hw4 hz4 k0 k1 k2 k3 k4 k5
        obtain ⟨B0, hB0⟩ : ∃ B0, wr.heap.size = B0 := ⟨_, rfl⟩
        rw [hB0] at G ⊢
        clear hB0 hBw
        go_loopw [9, 144] (fun up i wx => ∃ k : Nat, k ≤ 2 ∧ up = .bool true ∧ i = .int .i64 (k : Int) ∧ Below w4.heap.size w4 wx) (fun _ i _ => 2 - (intOf i).toNat)
        case atStart => exact ⟨0, by omega, rfl, rfl, Below.refl _ _⟩
        case round =>
          obtain ⟨j, hj, rfl, rfl, hB⟩ := hrel
          by_cases hj2 : j < 2
          · rcases (show j = 0 ∨ j = 1 by omega) with rfl | rfl
            · have c0 := (hB.cell (p := ⟨B0, 0, none⟩) G.out.1).trans G.out.2.1
              have c1 := (hB.cell (p := ⟨B0, 1, none⟩) G.out.1).trans G.out.2.2.1
              have c2 := (hB.cell (p := ⟨B0, 2, none⟩) G.out.1).trans G.out.2.2.2.1
              obtain ⟨o, ho⟩ : ∃ o, dayI a b c = o := ⟨_, rfl⟩
              obtain ⟨g, hg⟩ : ∃ g, dayE a b c = g := ⟨_, rfl⟩
              have D := Lib.hid (And.intro ho hg)
              clear ho hg
              go_wp2_with fail
              obtain ⟨w8, hw8⟩ : ∃ w8, w8 = wr.alloc (.cells #[.int .i64 a, .int .i64 b, .int .i64 c] 22) := ⟨_, rfl⟩
              rw [← hw8]
              have hB8 : Below w4.heap.size w4 w8 := by rw [hw8]; exact bal hB _
              have hz8 : wr.heap.size < w8.heap.size := by rw [hw8]; simp
              have k0 : w8.cell? ⟨wr.heap.size, 0, none⟩ = some (.int .i64 a) := by rw [hw8]; simp [go_sem]
              have k1 : w8.cell? ⟨wr.heap.size, 1, none⟩ = some (.int .i64 b) := by rw [hw8]; simp [go_sem]
              have k2 : w8.cell? ⟨wr.heap.size, 2, none⟩ = some (.int .i64 c) := by rw [hw8]; simp [go_sem]
              have KC := Lib.hid (And.intro hz8 (And.intro k0 (And.intro k1 k2)))
              clear hw8 hz8 k0 k1 k2 c0 c1 c2 hB
              refine (day_at a b c o g D.out.1 D.out.2 _ (HT.out.go (bgo hB4 hB8)).1 (by omega)).mono ?_
              rintro e w9 ⟨rfl, hB⟩
              have k0 := (hB.cell (p := ⟨wr.heap.size, 0, none⟩) KC.out.1).trans KC.out.2.1
              have k1 := (hB.cell (p := ⟨wr.heap.size, 1, none⟩) KC.out.1).trans KC.out.2.2.1
              have k2 := (hB.cell (p := ⟨wr.heap.size, 2, none⟩) KC.out.1).trans KC.out.2.2.2
              have hB9 := bgo hB8 hB
              clear hB hB8
              go_wp2_with fail
              refine (rday_at a b c o g D.out.1 D.out.2 _ (by omega)).mono ?_
              rintro e w' ⟨rfl, rfl⟩
              clear k0 k1 k2
              go_wp2_with fail
              go_roundw
              case rel => exact ⟨1, by omega, rfl, by go_num, hB9⟩
              case measure => simp [intOf]
            · have c0 := (hB.cell (p := ⟨B0, 3, none⟩) G.out.1).trans G.out.2.2.2.2.1
              have c1 := (hB.cell (p := ⟨B0, 4, none⟩) G.out.1).trans G.out.2.2.2.2.2.1
              have c2 := (hB.cell (p := ⟨B0, 5, none⟩) G.out.1).trans G.out.2.2.2.2.2.2
              obtain ⟨o, ho⟩ : ∃ o, dayI (2000 + (p0 : Int)) (p1 : Int) (p2 : Int) = o := ⟨_, rfl⟩
              obtain ⟨g, hg⟩ : ∃ g, dayE (2000 + (p0 : Int)) (p1 : Int) (p2 : Int) = g := ⟨_, rfl⟩
              have D := Lib.hid (And.intro ho hg)
              clear ho hg
              go_wp2_with fail
              obtain ⟨w8, hw8⟩ : ∃ w8, w8 = wr.alloc (.cells #[.int .i64 (2000 + (p0 : Int)), .int .i64 (p1 : Int), .int .i64 (p2 : Int)] 22) := ⟨_, rfl⟩
              rw [← hw8]
              have hB8 : Below w4.heap.size w4 w8 := by rw [hw8]; exact bal hB _
              have hz8 : wr.heap.size < w8.heap.size := by rw [hw8]; simp
              have k0 : w8.cell? ⟨wr.heap.size, 0, none⟩ = some (.int .i64 (2000 + (p0 : Int))) := by rw [hw8]; simp [go_sem]
              have k1 : w8.cell? ⟨wr.heap.size, 1, none⟩ = some (.int .i64 (p1 : Int)) := by rw [hw8]; simp [go_sem]
              have k2 : w8.cell? ⟨wr.heap.size, 2, none⟩ = some (.int .i64 (p2 : Int)) := by rw [hw8]; simp [go_sem]
              have KC := Lib.hid (And.intro hz8 (And.intro k0 (And.intro k1 k2)))
              clear hw8 hz8 k0 k1 k2 c0 c1 c2 hB
              refine (day_at (2000 + (p0 : Int)) (p1 : Int) (p2 : Int) o g D.out.1 D.out.2 _ (HT.out.go (bgo hB4 hB8)).1 (by omega)).mono ?_
              rintro e w9 ⟨rfl, hB⟩
              have k0 := (hB.cell (p := ⟨wr.heap.size, 0, none⟩) KC.out.1).trans KC.out.2.1
              have k1 := (hB.cell (p := ⟨wr.heap.size, 1, none⟩) KC.out.1).trans KC.out.2.2.1
              have k2 := (hB.cell (p := ⟨wr.heap.size, 2, none⟩) KC.out.1).trans KC.out.2.2.2
              have hB9 := bgo hB8 hB
              clear hB hB8
              go_wp2_with fail
              refine (rday_at (2000 + (p0 : Int)) (p1 : Int) (p2 : Int) o g D.out.1 D.out.2 _ (by omega)).mono ?_
              rintro e w' ⟨rfl, rfl⟩
              clear k0 k1 k2
              go_wp2_with fail
              go_roundw
              case rel => exact ⟨2, by omega, rfl, by go_num, hB9⟩
              case measure => simp [intOf]
          · have hB9 := bgo hB4 hB
            clear hB G hB4
            obtain ⟨s, hs⟩ : ∃ s, text.extract 0 (min (text.size : Int) 30).toNat = s := ⟨_, rfl⟩
            have hss : s.size ≤ 30 := by rw [← hs, ByteArray.size_extract]; omega
            have Hs := Lib.hid hs
            clear hs
            obtain ⟨i, hi⟩ : ∃ i, parI s.data.toList = i := ⟨_, rfl⟩
            obtain ⟨e0, he⟩ : ∃ e, parE s.data.toList = e := ⟨_, rfl⟩
            obtain ⟨v3, hF1⟩ := both_first (q : Int)
            obtain ⟨v4, hN1⟩ := both_length (q : Int)
            have D := Lib.hid (And.intro hi (And.intro he (And.intro hF1 hN1)))
            clear hi he hF1 hN1
            go_wp2_with fail
            rw [Hs.out]
            refine (parse_at s i e0 (by unfold maxLen; omega) D.out.1 D.out.2.1 _ (HT.out.go hB9).1).mono ?_
            rintro e wa ⟨rfl, hB⟩
            have hBa := bgo hB9 hB
            clear hB hB9
            go_wp2_with fail
            refine (rparse_at s i e0 (by omega) D.out.1 D.out.2.1 _).mono ?_
            rintro e w' ⟨rfl, rfl⟩
            go_wp2_with fail
            refine (pick_any months 1200 1200 rfl (by omega) (by omega) hmonths q F.out.2.2.2.2 _).mono ?_
            rintro e w' ⟨rfl, rfl⟩
            go_wp2_with fail
            refine (D.out.2.2.1.1 _ (HT.out.go hBa).1).mono ?_
            rintro e wb ⟨rfl, hB⟩
            have hBb := bgo hBa hB
            clear hB hBa
            go_wp2_with fail
            refine (D.out.2.2.1.2 _).mono ?_
            rintro e w' ⟨rfl, rfl⟩
            go_wp2_with fail
            refine (D.out.2.2.2.1 _ (HT.out.go hBb).1).mono ?_
            rintro e wc ⟨rfl, hB⟩
            have hBc := bgo hBb hB
            clear hB hBb
            go_wp2_with fail
            refine (D.out.2.2.2.2 _).mono ?_
            rintro e w' ⟨rfl, rfl⟩
            go_wp2_with fail
            go_ret
            exact ⟨rfl, hBc⟩
end Go.Proofs.YtnfjpmchdbgonaaDoor
