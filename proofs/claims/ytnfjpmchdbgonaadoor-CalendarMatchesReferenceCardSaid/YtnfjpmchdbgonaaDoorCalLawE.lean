/- The walk of CalendarInverse. -/
import Derived.Test.YtnfjpmchdbgonaaDoorCalPlain
import Derived.Deep.RegionHeld3
import Derived.Laws.IdiomArrays
namespace Go.Proofs.YtnfjpmchdbgonaaDoor
open Go.RowKit Go.Sort Go.ChangeShapes Go.WideShapes Go.ChangeAt
set_option linter.unusedVariables false
theorem okWide_arr {P : Program} {w : World} {r : Reach} {base : Nat} {t e : TypeId} {n : Nat} {v : Value} (ht : P.underlying t = some (.array n e)) (h : Value.okWide P w r base t v) : ∃ cs, v = .agg cs ∧ cs.size = P.cellsOf t := by
  simp only [Value.okWide, ht] at h
  obtain ⟨cs, h1, h2, _⟩ := h
  exact ⟨cs, h1, h2⟩
theorem cells_int3 : Tryd.prog.cellsOf 22 = 3 := by kernel_rfl
theorem cells_int : Tryd.prog.cellsOf 3 = 1 := by kernel_rfl
theorem open_int3 {H : Type} {enc : TypeId × Value → H} {W : World} {base : Nat} {v : Value} {d : DataW H} {p : List MemPlace} (hv : Value.okWide Tryd.prog W .any base 22 v) (h : DataW.Trod enc Tryd.prog W 0 (fun _ => true) true 22 v d p) :
    ∃ a b c : Int, v = .agg #[.int .i64 a, .int .i64 b, .int .i64 c] ∧ (Lit.int .i64 a).wf = true ∧ (Lit.int .i64 b).wf = true ∧ (Lit.int .i64 c).wf = true := by
  obtain ⟨cs, rfl, hsz⟩ := okWide_arr Tryd.underlying22 hv
  rw [cells_int3] at hsz
  obtain ⟨cs⟩ := cs
  match cs, hsz with
  | [c0, c1, c2], _ =>
    obtain ⟨fuel, hf⟩ := h
    obtain ⟨y0, y1, y2, m, _, hy0, hy1, hy2⟩ := trod_array3 Tryd.underlying22 cells_int hf
    obtain ⟨a, ha, _, wa⟩ := DataW.trod_int Tryd.underlying3 hy0
    obtain ⟨b, hb, _, wb⟩ := DataW.trod_int Tryd.underlying3 hy1
    obtain ⟨c, hc, _, wc⟩ := DataW.trod_int Tryd.underlying3 hy2
    refine ⟨a, b, c, ?_, wa, wb, wc⟩
    simp at ha hb hc
    rw [ha, hb, hc]
set_option maxRecDepth 100000 in
set_option maxHeartbeats 4000000 in
theorem calendarInverse_walk (day other a b c : Int) (w : World) (hday : (Lit.int .i64 day).wf = true) (hother : (Lit.int .i64 other).wf = true) (ha : (Lit.int .i64 a).wf = true) (hb : (Lit.int .i64 b).wf = true) (hc : (Lit.int .i64 c).wf = true) (hT : Tabs w) :
    Calls Tryd.prog 4 #[.int .i64 day, .int .i64 other, .agg #[.int .i64 a, .int .i64 b, .int .i64 c]] w fun e w' => e = .returned (.bool true) ∧ Below w.heap.size w w' := by
  replace hday := i64_b hday
  replace hother := i64_b hother
  replace ha := i64_b ha
  replace hb := i64_b hb
  replace hc := i64_b hc
  obtain ⟨n, hn⟩ : ∃ n, pickV day 36525 = n := ⟨_, rfl⟩
  have hn1 : n < 36525 := by rw [← hn]; exact pickV_lt _ _ (by omega)
  obtain ⟨k, hk⟩ : ∃ n, pickV other 36525 = n := ⟨_, rfl⟩
  have hk1 : k < 36525 := by rw [← hk]; exact pickV_lt _ _ (by omega)
  obtain ⟨M, hM⟩ := Cal.exists_month n hn1
  obtain ⟨K, hK⟩ := Cal.exists_month k hk1
  obtain ⟨p0, hp0⟩ : ∃ p, pickV a 102 = p := ⟨_, rfl⟩
  have hp0l : p0 < 102 := by rw [← hp0]; exact pickV_lt _ _ (by omega)
  obtain ⟨p1, hp1⟩ : ∃ p, pickV b 14 = p := ⟨_, rfl⟩
  have hp1l : p1 < 14 := by rw [← hp1]; exact pickV_lt _ _ (by omega)
  obtain ⟨p2, hp2⟩ : ∃ p, pickV c 33 = p := ⟨_, rfl⟩
  have hp2l : p2 < 33 := by rw [← hp2]; exact pickV_lt _ _ (by omega)
  obtain ⟨y, hy⟩ : ∃ y, 2000 + M / 12 = y := ⟨_, rfl⟩
  obtain ⟨m, hm⟩ : ∃ m, M % 12 + 1 = m := ⟨_, rfl⟩
  obtain ⟨d, hd⟩ : ∃ d, Cal.dom n M = d := ⟨_, rfl⟩
  have hdb := hM.dom
  have hlb := Cal.lenM_bounds M
  have hd31 : d ≤ 31 := by omega
  obtain ⟨hi, he⟩ := day_of hM
  rw [hy, hm, hd] at hi he
  obtain ⟨t, ht⟩ : ∃ t : ByteArray, (⟨(Cal.text (2000 + M / 12) (M % 12 + 1) (Cal.dom n M)).toArray⟩ : ByteArray) = t := ⟨_, rfl⟩
  obtain ⟨t2, ht2⟩ : ∃ t : ByteArray, (⟨(Cal.text (2000 + K / 12) (K % 12 + 1) (Cal.dom k K)).toArray⟩ : ByteArray) = t := ⟨_, rfl⟩
  have htd : t.data.toList = dtext n M := by rw [← ht]; rfl
  have htd2 : t2.data.toList = dtext k K := by rw [← ht2]; rfl
  have hts : t.size = 10 := by rw [← ht]; rfl
  have hts10 : ((t.size : Int) == 10) = true := by rw [hts]; rfl
  have hpar := par_text hM
  have heq : (t.toList == t2.toList) = ((n : Int) == (k : Int)) := by
    rw [ByteArray.toList_eq, ByteArray.toList_eq, htd, htd2]
    by_cases hnk : n = k
    · subst hnk
      have := Cal.InM.unique hM hK
      subst this
      simp
    · rw [beq_eq_false_iff_ne.2 (fun e => hnk (dtext_inj hM hK e)), beq_eq_false_iff_ne.2 (by omega)]
  have hless : Op.bytesLess t.toList t2.toList = decide ((n : Int) < (k : Int)) := by
    rw [ByteArray.toList_eq, ByteArray.toList_eq, htd, htd2, dtext_less hM hK, decide_eq_decide]
    omega
  have HT := Lib.hid hT
  have F := Lib.hid (And.intro hn (And.intro hk (And.intro hM (And.intro hK (And.intro hy (And.intro hm (And.intro hd (And.intro hi (And.intro he (And.intro ht (And.intro ht2 (And.intro htd hpar))))))))))))
  have P := Lib.hid (And.intro hp0 (And.intro hp1 hp2))
  clear hT hn hk hM hK hy hm hd hi he ht ht2 htd htd2 hpar hp0 hp1 hp2 hdb hlb hts
  go_enter Tryd.func4, Tryd.ntmps4
  go_wp2_with fail
  refine (head_any _ (HT.out.go (bal (Below.refl _ _) _))).mono ?_
  rintro e w1 ⟨rfl, hB⟩
  have hz1 : w.heap.size < w1.heap.size := by have := hB.size; simp at this; omega
  have c0 : w1.cell? ⟨w.heap.size, 0, none⟩ = some (.int .i64 a) := (hB.cell (p := ⟨w.heap.size, 0, none⟩) (by simp)).trans (by simp [go_sem])
  have c1 : w1.cell? ⟨w.heap.size, 1, none⟩ = some (.int .i64 b) := (hB.cell (p := ⟨w.heap.size, 1, none⟩) (by simp)).trans (by simp [go_sem])
  have c2 : w1.cell? ⟨w.heap.size, 2, none⟩ = some (.int .i64 c) := (hB.cell (p := ⟨w.heap.size, 2, none⟩) (by simp)).trans (by simp [go_sem])
  have hB1 := bgo (bal (Below.refl _ _) _) hB
  have C := Lib.hid (And.intro hz1 (And.intro c0 (And.intro c1 c2)))
  clear hB hz1 c0 c1 c2
  go_wp2_with fail
  refine (pick_any day 36525 36525 rfl (by omega) (by omega) hday n F.out.1 _).mono ?_
  rintro e w' ⟨rfl, rfl⟩
  go_wp2_with fail
  refine (pick_any other 36525 36525 rfl (by omega) (by omega) hother k F.out.2.1 _).mono ?_
  rintro e w' ⟨rfl, rfl⟩
  go_wp2_with fail
  refine (date_at n M y m d F.out.2.2.1 F.out.2.2.2.2.1 F.out.2.2.2.2.2.1 F.out.2.2.2.2.2.2.1 _ (HT.out.go hB1).1).mono ?_
  rintro e w2 ⟨rfl, hB⟩
  have hA2 := hB
  have hB2 := bgo hB1 hB
  clear hB
  go_wp2_with fail
  refine (day_at (y : Int) (m : Int) (d : Int) (n : Int) 0 F.out.2.2.2.2.2.2.2.1 F.out.2.2.2.2.2.2.2.2.1 _ (HT.out.go hB2).1 (by omega)).mono ?_
  rintro e w3 ⟨rfl, hB⟩
  have hA3 := bgo hA2 hB
  have hB3 := bgo hB2 hB
  clear hB hA2 hB2
  go_wp2_with fail
  refine (textI n M _ t rfl F.out.2.2.1 F.out.2.2.2.2.2.2.2.2.2.1 _ (HT.out.go hB3)).mono ?_
  rintro e w4 ⟨rfl, hB⟩
  have hA4 := bgo hA3 hB
  have hB4 := bgo hB3 hB
  clear hB hA3 hB3
  go_wp2_with fail
  refine (parse_at t (n : Int) 0 (by have := hts10; simp at this; unfold maxLen; omega) (by rw [F.out.2.2.2.2.2.2.2.2.2.2.2.1]; exact F.out.2.2.2.2.2.2.2.2.2.2.2.2.1) (by rw [F.out.2.2.2.2.2.2.2.2.2.2.2.1]; exact F.out.2.2.2.2.2.2.2.2.2.2.2.2.2) _ (HT.out.go hB4).1).mono ?_
  rintro e w5 ⟨rfl, hB⟩
  have hA5 := bgo hA4 hB
  have hB5 := bgo hB4 hB
  clear hB hA4 hB4
  go_wp2_with fail
  refine (textI k K _ t2 rfl F.out.2.2.2.1 F.out.2.2.2.2.2.2.2.2.2.2.1 _ (HT.out.go hB5)).mono ?_
  rintro e w6 ⟨rfl, hB⟩
  have hA6 := bgo hA5 hB
  have hB6 := bgo hB5 hB
  clear hB hA5 hB5
  go_wp2_with fail
  refine (textI k K _ t2 rfl F.out.2.2.2.1 F.out.2.2.2.2.2.2.2.2.2.2.1 _ (HT.out.go hB6)).mono ?_
  rintro e w7 ⟨rfl, hB⟩
  have hA7 := bgo hA6 hB
  have hB7 := bgo hB6 hB
  clear hB hA6 hB6
  go_wp2_with fail
  have c0 := (hA7.cell (p := ⟨w.heap.size, 0, none⟩) C.out.1).trans C.out.2.1
  have c1 := (hA7.cell (p := ⟨w.heap.size, 1, none⟩) C.out.1).trans C.out.2.2.1
  have c2 := (hA7.cell (p := ⟨w.heap.size, 2, none⟩) C.out.1).trans C.out.2.2.2
  have hwr : IntKind.i64.wrap (1999 + (p0 : Int)) = 1999 + (p0 : Int) := IntWalk.i64_in _ (by omega)
  obtain ⟨o, ho⟩ : ∃ o, dayI (1999 + (p0 : Int)) (p1 : Int) (p2 : Int) = o := ⟨_, rfl⟩
  obtain ⟨g, hg⟩ : ∃ g, dayE (1999 + (p0 : Int)) (p1 : Int) (p2 : Int) = g := ⟨_, rfl⟩
  have G := Lib.hid (And.intro ho hg)
  have hcase : (g = 21 ∧ o = 0) ∨ (g = 0 ∧ ∃ n2 M2 : Nat, Cal.InM n2 M2 ∧ o = (n2 : Int) ∧ ((2000 + M2 / 12 : Nat) : Int) = 1999 + (p0 : Int) ∧ ((M2 % 12 + 1 : Nat) : Int) = (p1 : Int) ∧ ((Cal.dom n2 M2 : Nat) : Int) = (p2 : Int)) := by
    by_cases hP : dayP (1999 + (p0 : Int)) (p1 : Int) (p2 : Int)
    · right
      obtain ⟨n2, M2, h1, h2, h3, h4, h5⟩ := of_day hP
      refine ⟨?_, n2, M2, h1, by rw [← ho]; exact h2, h3.symm, h4.symm, h5.symm⟩
      rw [← hg]; exact if_pos hP
    · left
      exact ⟨by rw [← hg]; exact if_neg hP, by rw [← ho]; exact if_neg hP⟩
  have Hcase := Lib.hid hcase
  clear ho hg hcase heq hless
  go_region_held3 (fun w' => w'.cell? ⟨w.heap.size, 0, none⟩ = some (.int .i64 a) ∧ w'.cell? ⟨w.heap.size, 1, none⟩ = some (.int .i64 b) ∧ w'.cell? ⟨w.heap.size, 2, none⟩ = some (.int .i64 c))
    (go_keep)
    (first
      | (go_at_call 10; (with_reducible refine (pick_any a 102 102 rfl (by omega) (by omega) ha p0 P.out.1 _).mono ?_); rintro e w' ⟨rfl, rfl⟩)
      | (go_at_call 10; (with_reducible refine (pick_any b 14 14 rfl (by omega) (by omega) hb p1 P.out.2.1 _).mono ?_); rintro e w' ⟨rfl, rfl⟩)
      | (go_at_call 10; (with_reducible refine (pick_any c 33 33 rfl (by omega) (by omega) hc p2 P.out.2.2 _).mono ?_); rintro e w' ⟨rfl, rfl⟩))
  all_goals
    clear hwr c0 c1 c2
    go_wp2_with fail
    obtain ⟨w8, hw8⟩ : ∃ w8, w8 = (w7.alloc (.cells #[.int .i64 (1999 + (p0 : Int)), .int .i64 (p1 : Int), .int .i64 (p2 : Int)] 22)).drew := ⟨_, rfl⟩
    rw [← hw8]
    have hB8 : Below w.heap.size w w8 := by rw [hw8]; exact (bal hB7 _).drew
    have hz8 : w7.heap.size < w8.heap.size := by rw [hw8]; show w7.heap.size < (w7.alloc _).heap.size; simp
    have k0 : w8.cell? ⟨w7.heap.size, 0, none⟩ = some (.int .i64 (1999 + (p0 : Int))) := by rw [hw8]; simp [go_sem]
    have k1 : w8.cell? ⟨w7.heap.size, 1, none⟩ = some (.int .i64 (p1 : Int)) := by rw [hw8]; simp [go_sem]
    have k2 : w8.cell? ⟨w7.heap.size, 2, none⟩ = some (.int .i64 (p2 : Int)) := by rw [hw8]; simp [go_sem]
    have KC := Lib.hid (And.intro hz8 (And.intro k0 (And.intro k1 k2)))
    clear hw8 hz8 k0 k1 k2
    refine (day_at (1999 + (p0 : Int)) (p1 : Int) (p2 : Int) o g G.out.1 G.out.2 _ (HT.out.go hB8).1 (by omega)).mono ?_
    rintro e w9 ⟨rfl, hB⟩
    have hA9 := hB
    have hB9 := bgo hB8 hB
    clear hB hB8
    rcases Hcase.out with ⟨h1, h2⟩ | ⟨h1, n2, M2, h2, h3, h4, h5, h6⟩
    · subst h1 h2
      go_wp2_with fail
      go_ret
      exact ⟨rfl, hB9⟩
    · subst h1 h3
      have Q := Lib.hid (And.intro h2 (And.intro h4 (And.intro h5 h6)))
      clear h2 h4 h5 h6
      go_wp2_with fail
      refine (dateI n2 _ (1999 + (p0 : Int)) (p1 : Int) (p2 : Int) M2 rfl Q.out.1 Q.out.2.1 Q.out.2.2.1 Q.out.2.2.2 _ (HT.out.go hB9).1).mono ?_
      rintro e wa ⟨rfl, hB⟩
      have hAa := bgo hA9 hB
      have hBa := bgo hB9 hB
      clear hB hA9 hB9
      have k0 := (hAa.cell (p := ⟨w7.heap.size, 0, none⟩) KC.out.1).trans KC.out.2.1
      have k1 := (hAa.cell (p := ⟨w7.heap.size, 1, none⟩) KC.out.1).trans KC.out.2.2.1
      have k2 := (hAa.cell (p := ⟨w7.heap.size, 2, none⟩) KC.out.1).trans KC.out.2.2.2
      go_wp2_with fail
      go_ret
      exact ⟨rfl, hBa⟩
end Go.Proofs.YtnfjpmchdbgonaaDoor
