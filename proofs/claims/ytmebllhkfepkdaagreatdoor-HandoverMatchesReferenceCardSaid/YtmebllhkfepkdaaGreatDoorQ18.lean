/- The walks of package handover, sixth part: counting and its iterator. The reference's Name, Valid and counts (layer 29). -/
import Derived.Test.YtmebllhkfepkdaaGreatDoorQ17
import Derived.Test.YtmebllhkfepkdaaGreatDoorQ02
import Derived.StillTailTactics
import Derived.OwnWalkIn
import Derived.TacticsInMore
import Derived.LoopNIn
import Derived.LoopIn
import Derived.RangeFuncBox
import Derived.RangeFuncLeaves
import Derived.Shelf.Abstract
namespace Go.Proofs.YtmebllhkfepkdaaGreatDoor
open Go.RowKit Go.Shelf
set_option linter.unusedVariables false
set_option linter.unusedSimpArgs false
set_option maxRecDepth 100000
attribute [local go_sem] Oper.semAt_some
/-- Whether a total counts. -/
def cntB (person : ByteArray) (month : Int) (t : TotD) : Bool := validTB t && decide (t.p = person) && decide (t.m < month) && decide (t.m / 12 = month / 12)
theorem counting_any (A : Option Addr) (n c : Nat) (person : ByteArray) (month : Int) (w : World) :
    Calls Tryz.prog 33 #[.slice A n c, .string person, .int .i64 month] w fun e w' =>
      e = .returned (.func (.func 61) #[] #[.pointer (some ⟨w.heap.size, 0, none⟩), .pointer (some ⟨w.heap.size + 1, 0, none⟩), .pointer (some ⟨w.heap.size + 1 + 1, 0, none⟩)]) ∧
      ((w.alloc (.cells #[.slice A n c] 23)).alloc (.cells #[.string person] 9)).alloc (.cells #[.int .i64 month] 3) = w' := by
  go_enter Tryz.func33, Tryz.ntmps33
  go_wp2
  go_ret
  exact ⟨rfl, rfl⟩
/-- What the iterator reads. -/
structure CntAt (W : World) (Bl Bp Bm B0 : Nat) (A : Option Addr) (n c : Nat) (ts : List TotD) (person : ByteArray) (month : Int) : Prop where
  l : W.heap[Bl]? = some (.cells #[.slice A n c] 23 (0, 0))
  p : W.heap[Bp]? = some (.cells #[.string person] 9 (0, 0))
  m : W.heap[Bm]? = some (.cells #[.int .i64 month] 3 (0, 0))
  s : Sl W W.heap.size 5 A n (ts.flatMap totL5)
  lt : B0 ≤ W.heap.size
theorem CntAt.go {W W' : World} {Bl Bp Bm B0 : Nat} {A : Option Addr} {n c : Nat} {ts : List TotD} {person : ByteArray} {month : Int} (h : CntAt W Bl Bp Bm B0 A n c ts person month) (k : Below W.heap.size W W') : CntAt W' Bl Bp Bm B0 A n c ts person month :=
  ⟨(k.block _ (Array.getElem?_eq_some_iff.1 h.l).1).trans h.l, (k.block _ (Array.getElem?_eq_some_iff.1 h.p).1).trans h.p, (k.block _ (Array.getElem?_eq_some_iff.1 h.m).1).trans h.m, h.s.go k, Nat.le_trans h.lt k.size⟩
/-- What the iterator needs of each call of yield. -/
def CntYield (P : Program) (l m B0 : Nat) (R : List TotD) (J : Nat → World → Prop) : Prop :=
  ∀ (k : Nat) (W0 W1 : World) (t : TotD), R[k]? = some t → J k W0 → Below W0.heap.size W0 W1 →
    YieldAt Fence.wide m P l #[.agg #[.string t.e, .string t.p, .int .i64 t.m, .int .i64 t.g, .int .i64 t.x]] W1 fun e W' => (e = .returned (.bool true) ∧ J (k + 1) W') ∧ (∀ b, B0 ≤ b → b < W1.heap.size → W'.heap[b]? = W1.heap[b]?) ∧ W1.heap.size ≤ W'.heap.size
theorem filter_at {p : TotD → Bool} {l : List TotD} {k : Nat} {t : TotD} (h : l[k]? = some t) (hp : p t = true) : (l.filter p)[((l.take k).filter p).length]? = some t ∧ ((l.take (k + 1)).filter p).length = ((l.take k).filter p).length + 1 := by
  obtain ⟨hk, e⟩ := List.getElem?_eq_some_iff.1 h
  constructor
  · have e2 : l = l.take k ++ (t :: l.drop (k + 1)) := by rw [← e, ← List.drop_eq_getElem_cons hk, List.take_append_drop]
    conv => lhs; rw [e2]
    rw [List.filter_append, List.filter_cons, if_pos hp, List.getElem?_append_right (by rw [← e2]; exact Nat.le_refl _)]
    rw [← e2, Nat.sub_self]
    rfl
  · rw [List.take_add_one, h, Option.toList_some, List.filter_append, List.filter_cons, if_pos hp]
    simp
theorem filter_not {p : TotD → Bool} {l : List TotD} {k : Nat} {t : TotD} (h : l[k]? = some t) (hp : p t = false) : ((l.take (k + 1)).filter p).length = ((l.take k).filter p).length := by
  rw [List.take_add_one, h, Option.toList_some, List.filter_append, List.filter_cons, if_neg (by rw [hp]; decide)]
  simp
set_option maxHeartbeats 8000000 in
theorem cnt1_any (l m Bl Bp Bm B0 : Nat) (A : Option Addr) (n c : Nat) (ts : List TotD) (hn : ts.length = n) (hnl : n ≤ maxLen) (person : ByteArray) (mo : Nat) (hmo : mo ≤ 1199) (R : List TotD) (hR : Hid (ts.filter (cntB person (mo : Int)) = R)) (hwf : ∀ t ∈ ts, t.e.size ≤ maxLen ∧ t.p.size ≤ maxLen) (W : World) (J : Nat → World → Prop)
    (hD : ∀ k W, J k W → CntAt W Bl Bp Bm B0 A n c ts person (mo : Int)) (hJ : J 0 W) (hY : CntYield Tryz.prog l m B0 R J) :
    Calls Tryz.prog 61 #[.func (.yield l) #[] #[], .pointer (some ⟨Bl, 0, none⟩), .pointer (some ⟨Bp, 0, none⟩), .pointer (some ⟨Bm, 0, none⟩)] W fun r W' => (∃ v, r = .returned v) ∧ ∃ W0, Below W0.heap.size W0 W' ∧ J R.length W0 := by
  have HD := Lib.hid hD
  have HJ := Lib.hid hJ
  have HY := Lib.hid hY
  have Hwf := Lib.hid hwf
  have Hn := Lib.hid hn
  unfold maxLen at hnl
  have hA := hD 0 W hJ
  have c2 : W.cell? ⟨Bl, 0, none⟩ = some (.slice A n c) := by rw [Lib.cell_of_heap hA.l]; rfl
  clear hA hD hJ hY hwf hn
  go_enter Tryz.func61, Tryz.ntmps61
  go_wp2
  clear c2
  go_loopw [9] (fun i wr => ∃ k : Nat, k ≤ n ∧ i = .int .i64 (k : Int) ∧ ∃ W0, J ((ts.take k).filter (cntB person (mo : Int))).length W0 ∧ Below W0.heap.size W0 wr) (fun i _ => n - (intOf i).toNat)
  case atStart => exact ⟨0, Nat.zero_le _, rfl, W, HJ.out, Below.refl _ _⟩
  case round =>
    obtain ⟨k, hk, rfl, W0, hJk, hB⟩ := hrel
    have HJk := Lib.hid hJk
    have hat := (HD.out _ _ hJk).go hB
    clear hJk
    by_cases hlt : k < n
    · have hlt' : (k : Int) < (n : Int) := by omega
      have hkl : k < ts.length := by rw [Hn.out]; exact hlt
      obtain ⟨b, off, rfl, hb, hcell⟩ := hat.s.2 (by omega)
      obtain ⟨t, ht⟩ : ∃ t, ts[k]? = some t := ⟨_, List.getElem?_eq_getElem hkl⟩
      have htg : ts[k] = t := by rw [List.getElem?_eq_getElem hkl] at ht; exact Option.some.inj ht
      have hget := flat_get totL5 5 (fun _ => rfl) ts k hkl
      rw [htg] at hget
      have hws := Hwf.out t (List.mem_of_getElem? ht)
      obtain ⟨te, tp, tm, tg, tx⟩ := t
      dsimp only at hws
      have u0 : wr.cell? ⟨b, off + k * 5, none⟩ = some (.string te) := hcell _ _ (hget 0 (by decide))
      have u1 : wr.cell? ⟨b, off + k * 5 + 1, none⟩ = some (.string tp) := hcell _ _ (hget 1 (by decide))
      have u2 : wr.cell? ⟨b, off + k * 5 + 2, none⟩ = some (.int .i64 tm) := hcell _ _ (hget 2 (by decide))
      have u3 : wr.cell? ⟨b, off + k * 5 + 3, none⟩ = some (.int .i64 tg) := hcell _ _ (hget 3 (by decide))
      have u4 : wr.cell? ⟨b, off + k * 5 + 4, none⟩ = some (.int .i64 tx) := hcell _ _ (hget 4 (by decide))
      have Ht := Lib.hid ht
      have Hat := Lib.hid hat
      clear hcell hget htg ht hat hkl
      go_upto_region 3 with fail
      obtain ⟨V, hV⟩ : ∃ V, V = wr.alloc (.cells #[.string te, .string tp, .int .i64 tm, .int .i64 tg, .int .i64 tx] 25) := ⟨_, rfl⟩
      obtain ⟨Y, hYx⟩ : ∃ x, x = wr.heap.size := ⟨_, rfl⟩
      have gY : V.heap[Y]? = some (.cells #[.string te, .string tp, .int .i64 tm, .int .i64 tg, .int .i64 tx] 25) := by rw [hV, hYx]; exact World.alloc_heap_new _ _
      have hBV : Below wr.heap.size wr V := by rw [hV]; exact bal (Below.refl _ _) _
      have hYl : Y < V.heap.size := (Array.getElem?_eq_some_iff.1 gY).1
      have hYB : B0 ≤ Y := by rw [hYx]; exact Hat.out.lt
      rw [← hV, ← hYx]
      clear hV hYx u0 u1 u2 u3 u4
      obtain ⟨bv, hbv⟩ : ∃ b, validTB ⟨te, tp, tm, tg, tx⟩ = b := ⟨_, rfl⟩
      have Hbv := Lib.hid hbv
      have y0 : V.cell? ⟨Y, 0, none⟩ = some (.string te) := by rw [Lib.cell_of_heap gY]; rfl
      have y1 : V.cell? ⟨Y, 1, none⟩ = some (.string tp) := by rw [Lib.cell_of_heap gY]; rfl
      have y2 : V.cell? ⟨Y, 2, none⟩ = some (.int .i64 tm) := by rw [Lib.cell_of_heap gY]; rfl
      have y3 : V.cell? ⟨Y, 3, none⟩ = some (.int .i64 tg) := by rw [Lib.cell_of_heap gY]; rfl
      have y4 : V.cell? ⟨Y, 4, none⟩ = some (.int .i64 tx) := by rw [Lib.cell_of_heap gY]; rfl
      go_wp2_with fail
      (with_reducible refine (valid29_any te tp tm tg tx bv Hbv V hws.1 hws.2).mono ?_)
      rintro e w2 ⟨rfl, hB2⟩
      have g2 := (hB2.block _ hYl).trans gY
      have hBr2 : Below wr.heap.size wr w2 := bgo hBV hB2
      have hat2 := Hat.out.go hBr2
      clear y0 y1 y2 y3 y4
      cases bv with
      | false =>
        have Hno := Lib.hid (filter_not (p := cntB person (mo : Int)) Ht.out (by unfold cntB; rw [hbv]; rfl))
        clear hbv
        go_wp2_with fail
        go_roundw
        case rel => exact ⟨k + 1, by omega, by go_num, W0, by rw [Hno.out]; exact HJk.out, bgo hB hBr2⟩
        case measure => simp [intOf]; omega
      | true =>
        obtain ⟨_, _, hv3, _, _⟩ := valid_out hbv
        dsimp only at hv3
        obtain ⟨mn, hmn⟩ : ∃ q : Nat, tm = (q : Int) := ⟨tm.toNat, by omega⟩
        subst hmn
        have zp : w2.cell? ⟨Bp, 0, none⟩ = some (.string person) := by rw [Lib.cell_of_heap hat2.p]; rfl
        have zm : w2.cell? ⟨Bm, 0, none⟩ = some (.int .i64 (mo : Int)) := by rw [Lib.cell_of_heap hat2.m]; rfl
        have y0 : w2.cell? ⟨Y, 0, none⟩ = some (.string te) := by rw [Lib.cell_of_heap g2]; rfl
        have y1 : w2.cell? ⟨Y, 1, none⟩ = some (.string tp) := by rw [Lib.cell_of_heap g2]; rfl
        have y2 : w2.cell? ⟨Y, 2, none⟩ = some (.int .i64 (mn : Int)) := by rw [Lib.cell_of_heap g2]; rfl
        have y3 : w2.cell? ⟨Y, 3, none⟩ = some (.int .i64 tg) := by rw [Lib.cell_of_heap g2]; rfl
        have y4 : w2.cell? ⟨Y, 4, none⟩ = some (.int .i64 tx) := by rw [Lib.cell_of_heap g2]; rfl
        have d1 : (mn : Int).tdiv 12 = (mn : Int) / 12 := Int.tdiv_eq_ediv_of_nonneg (by omega)
        have d2 : (mo : Int).tdiv 12 = (mo : Int) / 12 := Int.tdiv_eq_ediv_of_nonneg (by omega)
        by_cases h1 : tp = person
        · have k1 : (tp.toList != person.toList) = false := by subst h1; simp
          have k1' : tp.toList = person.toList := by rw [h1]
          have k1'' : (tp.toList == person.toList) = true := beq_iff_eq.2 k1'
          by_cases h2 : mn < mo
          · have k2 : ¬ (mo : Int) ≤ (mn : Int) := by omega
            by_cases h3 : mn / 12 = mo / 12
            · have k3 : ((mn : Int) / 12 != (mo : Int) / 12) = false := by simp; omega
              obtain ⟨f1, f2⟩ := filter_at (p := cntB person (mo : Int)) Ht.out (by unfold cntB; rw [hbv, decide_eq_true h1, decide_eq_true (show (mn : Int) < (mo : Int) by omega), decide_eq_true (show (mn : Int) / 12 = (mo : Int) / 12 by omega)]; rfl)
              rw [hR.out] at f1
              have hyl := HY.out _ W0 w2 _ f1 HJk.out (bgo hB hBr2)
              dsimp only at hyl
              obtain ⟨fnY, tmpsY, assignY, bodyY, hy, hR1⟩ := hyl
              have HR1 := Lib.hid hR1
              have Hf2 := Lib.hid f2
              clear hR1 f1 f2 h1 h2 h3 hbv hat2
              go_upto_region 4 with fail
              clear zp zm d1 d2 k1 k1' k1'' k2 k3
              refine (wpIn_wide (n := m + 1)).1 ?_
              gi_wp2
              refine HR1.out.mono ?_
              rintro e W2 ⟨⟨rfl, hJ2⟩, hkeep, hsz2⟩
              have HJ2 := Lib.hid hJ2
              clear hkeep hy hJ2 y0 y1 y2 y3 y4
              gi_wp2
              go_wp2
              go_roundw
              case rel => exact ⟨k + 1, by omega, by go_num, W2, by rw [Hf2.out]; exact HJ2.out, Below.refl _ _⟩
              case measure => simp [intOf]; omega
            · have k3 : ((mn : Int) / 12 != (mo : Int) / 12) = true := by simp; omega
              have Hno := Lib.hid (filter_not (p := cntB person (mo : Int)) Ht.out (by unfold cntB; rw [hbv, decide_eq_false (show ¬ (mn : Int) / 12 = (mo : Int) / 12 by omega)]; simp))
              clear hbv h1 h2 h3
              go_wp2_with fail
              go_roundw
              case rel => exact ⟨k + 1, by omega, by go_num, W0, by rw [Hno.out]; exact HJk.out, bgo hB hBr2⟩
              case measure => simp [intOf]; omega
          · have k2 : (mo : Int) ≤ (mn : Int) := by omega
            have Hno := Lib.hid (filter_not (p := cntB person (mo : Int)) Ht.out (by unfold cntB; rw [hbv, decide_eq_false (show ¬ (mn : Int) < (mo : Int) by omega)]; simp))
            clear hbv h1 h2
            go_wp2_with fail
            go_roundw
            case rel => exact ⟨k + 1, by omega, by go_num, W0, by rw [Hno.out]; exact HJk.out, bgo hB hBr2⟩
            case measure => simp [intOf]; omega
        · have k1 : (tp.toList != person.toList) = true := by
            rw [bne_iff_ne]
            intro e
            rw [ByteArray.toList_eq, ByteArray.toList_eq] at e
            exact h1 (bytes_eq e)
          have k1' : ¬ tp.toList = person.toList := bne_iff_ne.1 k1
          have k1'' : (tp.toList == person.toList) = false := beq_eq_false_iff_ne.2 k1'
          have Hno := Lib.hid (filter_not (p := cntB person (mo : Int)) Ht.out (by unfold cntB; rw [hbv, decide_eq_false h1]; rfl))
          clear hbv h1
          go_wp2_with fail
          go_roundw
          case rel => exact ⟨k + 1, by omega, by go_num, W0, by rw [Hno.out]; exact HJk.out, bgo hB hBr2⟩
          case measure => simp [intOf]; omega
    · obtain rfl : n = k := by omega
      have hlen : ((ts.take n).filter (cntB person (mo : Int))).length = R.length := by rw [List.take_of_length_le (by rw [Hn.out]; exact Nat.le_refl _), hR.out]
      rw [hlen] at HJk
      go_wp2
      refine bodyPost_end (results_none rfl _ _ _) rfl ?_
      exact ⟨⟨_, rfl⟩, W0, hB, HJk.out⟩
end Go.Proofs.YtmebllhkfepkdaaGreatDoor
namespace Go.Proofs.YtmebllhkfepkdaaGreatDoor
open Go.RowKit Go.Shelf
set_option linter.unusedVariables false
set_option linter.unusedSimpArgs false
set_option maxRecDepth 100000
set_option maxHeartbeats 2000000 in
theorem rname_any (s : ByteArray) (w : World) (hs : s.size ≤ maxLen) : Calls Tryz.prog 47 #[.string s] w fun e w' => e = .returned (.bool (isNameB s)) ∧ w = w' := by
  unfold maxLen at hs
  by_cases h0 : 0 < s.size
  · have h0' : ¬ (s.size : Int) < 1 := by omega
    by_cases h16 : s.size ≤ 16
    · have h16' : ¬ (16 : Int) < (s.size : Int) := by omega
      have h00 : (0 : Int) < (s.size : Int) := by omega
      by_cases hc : 97 ≤ s[0].toNat ∧ s[0].toNat ≤ 122
      · obtain ⟨c0, hc0⟩ : ∃ c, s[0] = c := ⟨_, rfl⟩
        have HC := Lib.hid (And.intro hc0 hc)
        rw [hc0] at hc
        have hc1 : ¬ (c0.toNat : Int) < 97 := by omega
        have hc2 : ¬ 122 < (c0.toNat : Int) := by omega
        clear hc
        go_enter Tryz.func47, Tryz.ntmps47
        go_wp2_with fail
        clear hc0 hc1 hc2
        go_loop [3] (fun i => ∃ k : Nat, k ≤ s.size ∧ i = .int .i64 (k : Int) ∧ ∀ j (h : j < s.size), j < k → okC s[j] = true) (fun i => s.size - (intOf i).toNat)
        case atStart => exact ⟨0, Nat.zero_le _, rfl, fun j h hj => absurd hj (Nat.not_lt_zero j)⟩
        case round =>
          obtain ⟨k, hk, rfl, hok⟩ := hrel
          have Hok := Lib.hid hok
          clear hok
          by_cases hlt : k < s.size
          · have hlt' : (k : Int) < (s.size : Int) := by omega
            cases hcc : okC s[k] with
            | false =>
              have Hno := Lib.hid (name_no hlt hcc)
              obtain ⟨c, hce⟩ : ∃ c, s[k] = c := ⟨_, rfl⟩
              have hcn := of_decide_eq_false hcc
              rw [hce] at hcn
              clear hcc
              have hcase : c.toNat < 48 ∨ (57 < c.toNat ∧ c.toNat < 97 ∧ ¬ c.toNat = 95) ∨ 122 < c.toNat := by omega
              rcases hcase with hq | hq | hq
              · have p1 : ¬ 97 ≤ (c.toNat : Int) := by omega
                have p3 : ¬ 48 ≤ (c.toNat : Int) := by omega
                have p5 : ((c.toNat : Int) == 95) = false := by rw [beq_eq_false_iff_ne]; omega
                clear hcn hq
                go_wp2
                go_ret
                exact ⟨by rw [Hno.out]; rfl, rfl⟩
              · have p1 : ¬ 97 ≤ (c.toNat : Int) := by omega
                have p3 : 48 ≤ (c.toNat : Int) := by omega
                have p4 : ¬ (c.toNat : Int) ≤ 57 := by omega
                have p5 : ((c.toNat : Int) == 95) = false := by rw [beq_eq_false_iff_ne]; omega
                clear hcn hq
                go_wp2
                go_ret
                exact ⟨by rw [Hno.out]; rfl, rfl⟩
              · have p1 : 97 ≤ (c.toNat : Int) := by omega
                have p2 : ¬ (c.toNat : Int) ≤ 122 := by omega
                have p3 : 48 ≤ (c.toNat : Int) := by omega
                have p4 : ¬ (c.toNat : Int) ≤ 57 := by omega
                have p5 : ((c.toNat : Int) == 95) = false := by rw [beq_eq_false_iff_ne]; omega
                clear hcn hq
                go_wp2
                go_ret
                exact ⟨by rw [Hno.out]; rfl, rfl⟩
            | true =>
              have Hy : Hid (∀ j (h : j < s.size), j < k + 1 → okC s[j] = true) := Lib.hid (fun j h hj => by
                by_cases e : j < k
                · exact Hok.out j h e
                · obtain rfl : j = k := by omega
                  exact hcc)
              obtain ⟨c, hce⟩ : ∃ c, s[k] = c := ⟨_, rfl⟩
              have hcn := of_decide_eq_true hcc
              rw [hce] at hcn
              clear hcc
              have hcase : (97 ≤ c.toNat ∧ c.toNat ≤ 122) ∨ (48 ≤ c.toNat ∧ c.toNat ≤ 57) ∨ c.toNat = 95 := by omega
              rcases hcase with hq | hq | hq
              · have p1 : 97 ≤ (c.toNat : Int) := by omega
                have p2 : (c.toNat : Int) ≤ 122 := by omega
                clear hcn hq
                go_wp2
                go_round
                case rel => exact ⟨k + 1, by omega, by go_num, Hy.out⟩
                case measure => simp [intOf]; omega
              · have p1 : ¬ 97 ≤ (c.toNat : Int) := by omega
                have p3 : 48 ≤ (c.toNat : Int) := by omega
                have p4 : (c.toNat : Int) ≤ 57 := by omega
                clear hcn hq
                go_wp2
                go_round
                case rel => exact ⟨k + 1, by omega, by go_num, Hy.out⟩
                case measure => simp [intOf]; omega
              · have p1 : ¬ 97 ≤ (c.toNat : Int) := by omega
                have p3 : 48 ≤ (c.toNat : Int) := by omega
                have p4 : ¬ (c.toNat : Int) ≤ 57 := by omega
                have p5 : ((c.toNat : Int) == 95) = true := by rw [beq_iff_eq]; omega
                clear hcn hq
                go_wp2
                go_round
                case rel => exact ⟨k + 1, by omega, by go_num, Hy.out⟩
                case measure => simp [intOf]; omega
          · have hlt' : ¬ (k : Int) < (s.size : Int) := by omega
            have hyes : isNameB s = true := name_yes h0 h16 (by rw [HC.out.1]; have := HC.out.2; rw [HC.out.1] at this; exact this.1) (by rw [HC.out.1]; have := HC.out.2; rw [HC.out.1] at this; exact this.2) (fun j h => Hok.out j h (by omega))
            have Hyes := Lib.hid hyes
            clear hyes
            go_wp2
            go_ret
            exact ⟨by (rw [Hyes.out]; try rfl), rfl⟩
      · have hno : isNameB s = false := decide_eq_false (fun h => hc ⟨by rw [← name_head s h0]; exact h.2.2.1, by rw [← name_head s h0]; exact h.2.2.2.1⟩)
        have Hno := Lib.hid hno
        clear hno
        obtain ⟨c0, hc0⟩ : ∃ c, s[0] = c := ⟨_, rfl⟩
        rw [hc0] at hc
        by_cases q : c0.toNat < 97
        · have hc1 : (c0.toNat : Int) < 97 := by omega
          clear hc q
          go_enter Tryz.func47, Tryz.ntmps47
          go_wp2
          go_ret
          exact ⟨by (rw [Hno.out]; try rfl), rfl⟩
        · have hc1 : ¬ (c0.toNat : Int) < 97 := by omega
          have hc2 : 122 < (c0.toNat : Int) := by omega
          clear hc q
          go_enter Tryz.func47, Tryz.ntmps47
          go_wp2
          go_ret
          exact ⟨by (rw [Hno.out]; try rfl), rfl⟩
    · have h16' : (16 : Int) < (s.size : Int) := by omega
      have Hno := Lib.hid (show isNameB s = false from decide_eq_false (fun h => h16 h.2.1))
      go_enter Tryz.func47, Tryz.ntmps47
      go_wp2
      go_ret
      exact ⟨by (rw [Hno.out]; try rfl), rfl⟩
  · have h0' : (s.size : Int) < 1 := by omega
    have Hno := Lib.hid (show isNameB s = false from decide_eq_false (fun h => h0 h.1))
    go_enter Tryz.func47, Tryz.ntmps47
    go_wp2
    go_ret
    exact ⟨by (rw [Hno.out]; try rfl), rfl⟩
theorem rname_at (s : ByteArray) (r : Bool) (hr : Hid (isNameB s = r)) (w : World) (hs : s.size ≤ maxLen) : Calls Tryz.prog 47 #[.string s] w fun e w' => e = .returned (.bool r) ∧ w = w' := by
  rw [← hr.out]; exact rname_any s w hs
set_option maxHeartbeats 4000000 in
theorem rvalid29_any (te tp : ByteArray) (tm tg tx : Int) (b : Bool) (hb : Hid (validTB ⟨te, tp, tm, tg, tx⟩ = b)) (w : World) (he : te.size ≤ maxLen) (hp : tp.size ≤ maxLen) :
    Calls Tryz.prog 24 #[.agg #[.string te, .string tp, .int .i64 tm, .int .i64 tg, .int .i64 tx]] w fun e w' => e = .returned (.bool b) ∧ Below w.heap.size w w' := by
  obtain ⟨n1, h1⟩ : ∃ r, isNameB te = r := ⟨_, rfl⟩
  obtain ⟨n2, h2⟩ : ∃ r, isNameB tp = r := ⟨_, rfl⟩
  obtain ⟨g1, hg1⟩ : ∃ r, decide ((-1000000000000 : Int) ≤ tg) = r := ⟨_, rfl⟩
  obtain ⟨g2, hg2⟩ : ∃ r, decide (tg ≤ (1000000000000 : Int)) = r := ⟨_, rfl⟩
  obtain ⟨x1, hx1⟩ : ∃ r, decide ((-1000000000000 : Int) ≤ tx) = r := ⟨_, rfl⟩
  obtain ⟨x2, hx2⟩ : ∃ r, decide (tx ≤ (1000000000000 : Int)) = r := ⟨_, rfl⟩
  obtain ⟨m1, hm1⟩ : ∃ r, decide ((0 : Int) ≤ tm) = r := ⟨_, rfl⟩
  obtain ⟨m2, hm2⟩ : ∃ r, decide (tm ≤ (1199 : Int)) = r := ⟨_, rfl⟩
  have hv : (n1 && (n2 && ((g1 && g2) && ((x1 && x2) && (m1 && m2))))) = b := by
    rw [← hb.out, ← h1, ← h2, ← hg1, ← hg2, ← hx1, ← hx2, ← hm1, ← hm2]
    unfold validTB
    rw [Bool.eq_iff_iff]
    simp only [Bool.and_eq_true, decide_eq_true_eq]
    constructor
    · rintro ⟨a, b, ⟨c, d⟩, ⟨e, f⟩, g, h⟩
      exact ⟨⟨⟨a, b⟩, g, h⟩, c, d, e, f⟩
    · rintro ⟨⟨⟨a, b⟩, g, h⟩, c, d, e, f⟩
      exact ⟨a, b, ⟨c, d⟩, ⟨e, f⟩, g, h⟩
  have H1 := Lib.hid h1
  have H2 := Lib.hid h2
  have Hv := Lib.hid hv
  clear h1 h2 hv hb
  have Hg1 := Lib.hid hg1
  have Hg2 := Lib.hid hg2
  have Hx1 := Lib.hid hx1
  have Hx2 := Lib.hid hx2
  have Hm1 := Lib.hid hm1
  have Hm2 := Lib.hid hm2
  clear hg1 hg2 hx1 hx2 hm1 hm2
  go_enter Tryz.func24, Tryz.ntmps24
  go_upto_region 1 with fail
  obtain ⟨V, hV⟩ : ∃ W, W = w.alloc (.cells #[.string te, .string tp, .int .i64 tm, .int .i64 tg, .int .i64 tx] 25) := ⟨_, rfl⟩
  obtain ⟨X, hX⟩ : ∃ i, i = w.heap.size := ⟨_, rfl⟩
  rw [← hV]
  try rw [← hX]
  have gX : V.heap[X]? = some (.cells #[.string te, .string tp, .int .i64 tm, .int .i64 tg, .int .i64 tx] 25) := by rw [hV, hX]; exact World.alloc_heap_new _ _
  have hB : Below w.heap.size w V := by rw [hV]; exact bal (Below.refl _ _) _
  clear hV hX
  have k0 : V.cell? ⟨X, 0, none⟩ = some (.string te) := by rw [Lib.cell_of_heap gX]; rfl
  have k1 : V.cell? ⟨X, 1, none⟩ = some (.string tp) := by rw [Lib.cell_of_heap gX]; rfl
  have k2 : V.cell? ⟨X, 2, none⟩ = some (.int .i64 tm) := by rw [Lib.cell_of_heap gX]; rfl
  have k3 : V.cell? ⟨X, 3, none⟩ = some (.int .i64 tg) := by rw [Lib.cell_of_heap gX]; rfl
  have k4 : V.cell? ⟨X, 4, none⟩ = some (.int .i64 tx) := by rw [Lib.cell_of_heap gX]; rfl
  clear gX
  go_wp2_with fail
  refine (rname_at te n1 H1 V he).mono ?_
  rintro e wq ⟨rfl, hwq⟩
  obtain rfl := hwq
  go_wp2_with fail
  refine (rname_at tp n2 H2 V hp).mono ?_
  rintro e wq ⟨rfl, hwq⟩
  obtain rfl := hwq
  have hg1 := Hg1.out
  have hg2 := Hg2.out
  have hx1 := Hx1.out
  have hx2 := Hx2.out
  have hm1 := Hm1.out
  have hm2 := Hm2.out
  have hv := Hv.out
  cases n1 with
  | false =>
    cases g1 <;> cases x1 <;> (simp only [Bool.true_and, Bool.false_and, Bool.and_false, Bool.and_true] at hv; have Hq := Lib.hid hv; clear hv; go_wp2_with fail; go_ret; exact ⟨by (rw [← Hq.out]; try rfl), hB⟩)
  | true =>
    cases n2 with
    | false =>
      cases g1 <;> cases x1 <;> (simp only [Bool.true_and, Bool.false_and, Bool.and_false, Bool.and_true] at hv; have Hq := Lib.hid hv; clear hv; go_wp2_with fail; go_ret; exact ⟨by (rw [← Hq.out]; try rfl), hB⟩)
    | true =>
      cases g1 with
      | false =>
        cases x1 <;> (simp only [Bool.true_and, Bool.false_and, Bool.and_false, Bool.and_true] at hv; have Hq := Lib.hid hv; clear hv; go_wp2_with fail; go_ret; exact ⟨by (rw [← Hq.out]; try rfl), hB⟩)
      | true =>
        cases g2 with
        | false =>
          cases x1 <;> (simp only [Bool.true_and, Bool.false_and, Bool.and_false, Bool.and_true] at hv; have Hq := Lib.hid hv; clear hv; go_wp2_with fail; go_ret; exact ⟨by (rw [← Hq.out]; try rfl), hB⟩)
        | true =>
          cases x1 with
          | false =>
            (simp only [Bool.true_and, Bool.false_and, Bool.and_false, Bool.and_true] at hv; have Hq := Lib.hid hv; clear hv; go_wp2_with fail; go_ret; exact ⟨by (rw [← Hq.out]; try rfl), hB⟩)
          | true =>
            cases x2 with
            | false =>
              (simp only [Bool.true_and, Bool.false_and, Bool.and_false, Bool.and_true] at hv; have Hq := Lib.hid hv; clear hv; go_wp2_with fail; go_ret; exact ⟨by (rw [← Hq.out]; try rfl), hB⟩)
            | true =>
              cases m1 <;> (simp only [Bool.true_and, Bool.false_and, Bool.and_false, Bool.and_true] at hv; have Hq := Lib.hid hv; clear hv; go_wp2_with fail; go_ret; exact ⟨by (rw [← Hq.out]; try rfl), hB⟩)
set_option maxHeartbeats 4000000 in
theorem rcounts_any (te tp : ByteArray) (tm tg tx : Int) (person : ByteArray) (mo : Nat) (hmo : mo ≤ 1199) (b : Bool) (hb : Hid (cntB person (mo : Int) ⟨te, tp, tm, tg, tx⟩ = b)) (w : World) (he : te.size ≤ maxLen) (hp : tp.size ≤ maxLen) :
    Calls Tryz.prog 34 #[.agg #[.string te, .string tp, .int .i64 tm, .int .i64 tg, .int .i64 tx], .string person, .int .i64 (mo : Int)] w fun e w' => e = .returned (.bool b) ∧ Below w.heap.size w w' := by
  obtain ⟨bv, hbv⟩ : ∃ r, validTB ⟨te, tp, tm, tg, tx⟩ = r := ⟨_, rfl⟩
  have Hbv := Lib.hid hbv
  go_enter Tryz.func34, Tryz.ntmps34
  go_upto_region 1 with fail
  obtain ⟨V, hV⟩ : ∃ W, W = w.alloc (.cells #[.string te, .string tp, .int .i64 tm, .int .i64 tg, .int .i64 tx] 25) := ⟨_, rfl⟩
  obtain ⟨X, hX⟩ : ∃ i, i = w.heap.size := ⟨_, rfl⟩
  rw [← hV]
  try rw [← hX]
  have gX : V.heap[X]? = some (.cells #[.string te, .string tp, .int .i64 tm, .int .i64 tg, .int .i64 tx] 25) := by rw [hV, hX]; exact World.alloc_heap_new _ _
  have hB : Below w.heap.size w V := by rw [hV]; exact bal (Below.refl _ _) _
  clear hV hX
  have k0 : V.cell? ⟨X, 0, none⟩ = some (.string te) := by rw [Lib.cell_of_heap gX]; rfl
  have k1 : V.cell? ⟨X, 1, none⟩ = some (.string tp) := by rw [Lib.cell_of_heap gX]; rfl
  have k2 : V.cell? ⟨X, 2, none⟩ = some (.int .i64 tm) := by rw [Lib.cell_of_heap gX]; rfl
  have k3 : V.cell? ⟨X, 3, none⟩ = some (.int .i64 tg) := by rw [Lib.cell_of_heap gX]; rfl
  have k4 : V.cell? ⟨X, 4, none⟩ = some (.int .i64 tx) := by rw [Lib.cell_of_heap gX]; rfl
  go_wp2_with fail
  refine (rvalid29_any te tp tm tg tx bv Hbv V he hp).mono ?_
  rintro e w2 ⟨rfl, hB2⟩
  have g2 := (hB2.block _ (Array.getElem?_eq_some_iff.1 gX).1).trans gX
  have hBw := bgo hB hB2
  clear k0 k1 k2 k3 k4 gX
  have y1 : w2.cell? ⟨X, 1, none⟩ = some (.string tp) := by rw [Lib.cell_of_heap g2]; rfl
  have y2 : w2.cell? ⟨X, 2, none⟩ = some (.int .i64 tm) := by rw [Lib.cell_of_heap g2]; rfl
  cases bv with
  | false =>
    have Hf : Hid (false = b) := Lib.hid (by rw [← hb.out]; unfold cntB; rw [hbv]; rfl)
    clear hbv
    go_wp2_with fail
    go_ret
    exact ⟨by (rw [Hf.out]; try rfl), hBw⟩
  | true =>
    obtain ⟨_, _, hv3, _, _⟩ := valid_out hbv
    dsimp only at hv3
    obtain ⟨mn, hmn⟩ : ∃ q : Nat, tm = (q : Int) := ⟨tm.toNat, by omega⟩
    subst hmn
    have d1 : (mn : Int).tdiv 12 = (mn : Int) / 12 := Int.tdiv_eq_ediv_of_nonneg (by omega)
    have d2 : (mo : Int).tdiv 12 = (mo : Int) / 12 := Int.tdiv_eq_ediv_of_nonneg (by omega)
    obtain ⟨c1, hc1⟩ : ∃ r, (tp.toList == person.toList) = r := ⟨_, rfl⟩
    obtain ⟨c2, hc2⟩ : ∃ r, decide ((mn : Int) < (mo : Int)) = r := ⟨_, rfl⟩
    obtain ⟨c3, hc3⟩ : ∃ r, ((mn : Int) / 12 == (mo : Int) / 12) = r := ⟨_, rfl⟩
    have Hf : Hid ((c1 && (c2 && c3)) = b) := Lib.hid (by
      rw [← hb.out, ← hc1, ← hc2, ← hc3]
      unfold cntB
      rw [hbv, tl_dec]
      by_cases h1 : tp = person <;> by_cases h2 : (mn : Int) < (mo : Int) <;> by_cases h3 : (mn : Int) / 12 = (mo : Int) / 12 <;> simp [h1, h2, h3])
    clear hbv
    cases c1 with
    | false =>
      have Hq : Hid (false = b) := Lib.hid Hf.out
      go_wp2_with fail
      go_ret
      exact ⟨by (rw [Hq.out]; try rfl), hBw⟩
    | true =>
      cases c2 with
      | false =>
        have Hq : Hid (false = b) := Lib.hid Hf.out
        have hc2' : ¬ (mn : Int) < (mo : Int) := of_decide_eq_false hc2
        clear hc2
        go_wp2_with fail
        go_ret
        exact ⟨by (rw [Hq.out]; try rfl), hBw⟩
      | true =>
        have Hq : Hid (c3 = b) := Lib.hid Hf.out
        have hc2' : (mn : Int) < (mo : Int) := of_decide_eq_true hc2
        clear hc2
        go_wp2_with fail
        go_ret
        exact ⟨by (rw [← Hq.out]; try rfl), hBw⟩
end Go.Proofs.YtmebllhkfepkdaaGreatDoor
