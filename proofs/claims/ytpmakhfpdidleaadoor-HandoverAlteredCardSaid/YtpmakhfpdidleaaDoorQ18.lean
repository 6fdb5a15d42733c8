/- The walks of package handover, sixth part: counting and its iterator. The map of the latest totals by employer (handover.Before). -/
import Derived.Test.YtpmakhfpdidleaaDoorQ17
import Derived.Test.YtpmakhfpdidleaaDoorQ02
import Derived.StillTailTactics
import Derived.OwnWalkIn
import Derived.TacticsInMore
import Derived.LoopNIn
import Derived.LoopIn
import Derived.RangeFuncBox
import Derived.RangeFuncLeaves
import Derived.Shelf.Abstract
import Derived.Maps.RangeWalk
namespace Go.Proofs.YtpmakhfpdidleaaDoor
open Go.RowKit Go.Shelf
set_option linter.unusedVariables false
set_option linter.unusedSimpArgs false
set_option maxRecDepth 100000
attribute [local go_sem] Oper.semAt_some
/-- Whether a total counts. -/
def cntB (person : ByteArray) (month : Int) (t : TotD) : Bool := validTB t && decide (t.p = person) && decide (t.m < month) && decide (t.m / 12 = month / 12)
theorem counting_any (A : Option Addr) (n c : Nat) (person : ByteArray) (month : Int) (w : World) :
    Calls Tryd.prog 23 #[.slice A n c, .string person, .int .i64 month] w fun e w' =>
      e = .returned (.func (.func 41) #[] #[.pointer (some ⟨w.heap.size, 0, none⟩), .pointer (some ⟨w.heap.size + 1, 0, none⟩), .pointer (some ⟨w.heap.size + 1 + 1, 0, none⟩)]) ∧
      ((w.alloc (.cells #[.slice A n c] 32)).alloc (.cells #[.string person] 9)).alloc (.cells #[.int .i64 month] 3) = w' := by
  go_enter Tryd.func23, Tryd.ntmps23
  go_wp2
  go_ret
  exact ⟨rfl, rfl⟩
/-- What the iterator reads. -/
structure CntAt (W : World) (Bl Bp Bm B0 : Nat) (A : Option Addr) (n c : Nat) (ts : List TotD) (person : ByteArray) (month : Int) : Prop where
  l : W.heap[Bl]? = some (.cells #[.slice A n c] 32 (0, 0))
  p : W.heap[Bp]? = some (.cells #[.string person] 9 (0, 0))
  m : W.heap[Bm]? = some (.cells #[.int .i64 month] 3 (0, 0))
  s : Sl W W.heap.size 5 A n (ts.flatMap totL5)
  lt : B0 ≤ W.heap.size
theorem CntAt.go {W W' : World} {Bl Bp Bm B0 : Nat} {A : Option Addr} {n c : Nat} {ts : List TotD} {person : ByteArray} {month : Int} (h : CntAt W Bl Bp Bm B0 A n c ts person month) (k : Below W.heap.size W W') : CntAt W' Bl Bp Bm B0 A n c ts person month :=
  ⟨(k.block _ (Array.getElem?_eq_some_iff.1 h.l).1).trans h.l, (k.block _ (Array.getElem?_eq_some_iff.1 h.p).1).trans h.p, (k.block _ (Array.getElem?_eq_some_iff.1 h.m).1).trans h.m, h.s.go k, Nat.le_trans h.lt k.size⟩
/-- What the iterator needs of each call of yield. -/
def CntYield (P : Program) (l m B0 : Nat) (R : List TotD) (J : Nat → World → Prop) : Prop :=
  ∀ (k : Nat) (W0 W1 : World) (t : TotD), R[k]? = some t → J k W0 → Below W0.heap.size W0 W1 →
    YieldAt Fence.wide m P l #[.agg #[.string t.e, .string t.p, .int .i64 t.m, .int .i64 t.g, .int .i64 t.x]] W1 fun e W' => (e = .returned (.bool true) ∧ J (k + 1) W') ∧ (∀ b, B0 ≤ b → b < W1.heap.size → W'.heap[b]? = W1.heap[b]?) ∧ W1.heap.size ≤ W'.heap.size
theorem filter_at {p : TotD → Bool} {l : List TotD} {k : Nat} {t : TotD} (h : l[k]? = some t) (hp : p t = true) : (l.filter p)[((l.take k).filter p).length]? = some t ∧ ((l.take (k + 1)).filter p).length = ((l.take k).filter p).length + 1 := by
  obtain ⟨hk, e⟩ := List.getElem?_eq_some_iff.1 h
  constructor
  · have e2 : l = l.take k ++ (t :: l.drop (k + 1)) := by rw [← e, ← List.drop_eq_getElem_cons hk, List.take_append_drop]
    conv => lhs; rw [e2]
    rw [List.filter_append, List.filter_cons, if_pos hp, List.getElem?_append_right (by rw [← e2]; exact Nat.le_refl _)]
    rw [← e2, Nat.sub_self]
    rfl
  · rw [List.take_add_one, h, Option.toList_some, List.filter_append, List.filter_cons, if_pos hp]
    simp
theorem filter_not {p : TotD → Bool} {l : List TotD} {k : Nat} {t : TotD} (h : l[k]? = some t) (hp : p t = false) : ((l.take (k + 1)).filter p).length = ((l.take k).filter p).length := by
  rw [List.take_add_one, h, Option.toList_some, List.filter_append, List.filter_cons, if_neg (by rw [hp]; decide)]
  simp
set_option maxHeartbeats 8000000 in
theorem cnt1_any (l m Bl Bp Bm B0 : Nat) (A : Option Addr) (n c : Nat) (ts : List TotD) (hn : ts.length = n) (hnl : n ≤ maxLen) (person : ByteArray) (mo : Nat) (hmo : mo ≤ 1199) (R : List TotD) (hR : Hid (ts.filter (cntB person (mo : Int)) = R)) (hwf : ∀ t ∈ ts, t.e.size ≤ maxLen ∧ t.p.size ≤ maxLen) (W : World) (J : Nat → World → Prop)
    (hD : ∀ k W, J k W → CntAt W Bl Bp Bm B0 A n c ts person (mo : Int)) (hJ : J 0 W) (hY : CntYield Tryd.prog l m B0 R J) :
    Calls Tryd.prog 41 #[.func (.yield l) #[] #[], .pointer (some ⟨Bl, 0, none⟩), .pointer (some ⟨Bp, 0, none⟩), .pointer (some ⟨Bm, 0, none⟩)] W fun r W' => (∃ v, r = .returned v) ∧ ∃ W0, Below W0.heap.size W0 W' ∧ J R.length W0 := by
  have HD := Lib.hid hD
  have HJ := Lib.hid hJ
  have HY := Lib.hid hY
  have Hwf := Lib.hid hwf
  have Hn := Lib.hid hn
  unfold maxLen at hnl
  have hA := hD 0 W hJ
  have c2 : W.cell? ⟨Bl, 0, none⟩ = some (.slice A n c) := by rw [Lib.cell_of_heap hA.l]; rfl
  clear hA hD hJ hY hwf hn
  go_enter Tryd.func41, Tryd.ntmps41
  go_wp2
  clear c2
  go_loopw [9] (fun i wr => ∃ k : Nat, k ≤ n ∧ i = .int .i64 (k : Int) ∧ ∃ W0, J ((ts.take k).filter (cntB person (mo : Int))).length W0 ∧ Below W0.heap.size W0 wr) (fun i _ => n - (intOf i).toNat)
  case atStart => exact ⟨0, Nat.zero_le _, rfl, W, HJ.out, Below.refl _ _⟩
  case round =>
    obtain ⟨k, hk, rfl, W0, hJk, hB⟩ := hrel
    have HJk := Lib.hid hJk
    have hat := (HD.out _ _ hJk).go hB
    clear hJk
    by_cases hlt : k < n
    · have hlt' : (k : Int) < (n : Int) := by omega
      have hkl : k < ts.length := by rw [Hn.out]; exact hlt
      obtain ⟨b, off, rfl, hb, hcell⟩ := hat.s.2 (by omega)
      obtain ⟨t, ht⟩ : ∃ t, ts[k]? = some t := ⟨_, List.getElem?_eq_getElem hkl⟩
      have htg : ts[k] = t := by rw [List.getElem?_eq_getElem hkl] at ht; exact Option.some.inj ht
      have hget := flat_get totL5 5 (fun _ => rfl) ts k hkl
      rw [htg] at hget
      have hws := Hwf.out t (List.mem_of_getElem? ht)
      obtain ⟨te, tp, tm, tg, tx⟩ := t
      dsimp only at hws
      have u0 : wr.cell? ⟨b, off + k * 5, none⟩ = some (.string te) := hcell _ _ (hget 0 (by decide))
      have u1 : wr.cell? ⟨b, off + k * 5 + 1, none⟩ = some (.string tp) := hcell _ _ (hget 1 (by decide))
      have u2 : wr.cell? ⟨b, off + k * 5 + 2, none⟩ = some (.int .i64 tm) := hcell _ _ (hget 2 (by decide))
      have u3 : wr.cell? ⟨b, off + k * 5 + 3, none⟩ = some (.int .i64 tg) := hcell _ _ (hget 3 (by decide))
      have u4 : wr.cell? ⟨b, off + k * 5 + 4, none⟩ = some (.int .i64 tx) := hcell _ _ (hget 4 (by decide))
      have Ht := Lib.hid ht
      have Hat := Lib.hid hat
      clear hcell hget htg ht hat hkl
      go_upto_region 3 with fail
      obtain ⟨V, hV⟩ : ∃ V, V = wr.alloc (.cells #[.string te, .string tp, .int .i64 tm, .int .i64 tg, .int .i64 tx] 25) := ⟨_, rfl⟩
      obtain ⟨Y, hYx⟩ : ∃ x, x = wr.heap.size := ⟨_, rfl⟩
      have gY : V.heap[Y]? = some (.cells #[.string te, .string tp, .int .i64 tm, .int .i64 tg, .int .i64 tx] 25) := by rw [hV, hYx]; exact World.alloc_heap_new _ _
      have hBV : Below wr.heap.size wr V := by rw [hV]; exact bal (Below.refl _ _) _
      have hYl : Y < V.heap.size := (Array.getElem?_eq_some_iff.1 gY).1
      have hYB : B0 ≤ Y := by rw [hYx]; exact Hat.out.lt
      rw [← hV, ← hYx]
      clear hV hYx u0 u1 u2 u3 u4
      obtain ⟨bv, hbv⟩ : ∃ b, validTB ⟨te, tp, tm, tg, tx⟩ = b := ⟨_, rfl⟩
      have Hbv := Lib.hid hbv
      have y0 : V.cell? ⟨Y, 0, none⟩ = some (.string te) := by rw [Lib.cell_of_heap gY]; rfl
      have y1 : V.cell? ⟨Y, 1, none⟩ = some (.string tp) := by rw [Lib.cell_of_heap gY]; rfl
      have y2 : V.cell? ⟨Y, 2, none⟩ = some (.int .i64 tm) := by rw [Lib.cell_of_heap gY]; rfl
      have y3 : V.cell? ⟨Y, 3, none⟩ = some (.int .i64 tg) := by rw [Lib.cell_of_heap gY]; rfl
      have y4 : V.cell? ⟨Y, 4, none⟩ = some (.int .i64 tx) := by rw [Lib.cell_of_heap gY]; rfl
      go_wp2_with fail
      (with_reducible refine (valid29_any te tp tm tg tx bv Hbv V hws.1 hws.2).mono ?_)
      rintro e w2 ⟨rfl, hB2⟩
      have g2 := (hB2.block _ hYl).trans gY
      have hBr2 : Below wr.heap.size wr w2 := bgo hBV hB2
      have hat2 := Hat.out.go hBr2
      clear y0 y1 y2 y3 y4
      cases bv with
      | false =>
        have Hno := Lib.hid (filter_not (p := cntB person (mo : Int)) Ht.out (by unfold cntB; rw [hbv]; rfl))
        clear hbv
        go_wp2_with fail
        go_roundw
        case rel => exact ⟨k + 1, by omega, by go_num, W0, by rw [Hno.out]; exact HJk.out, bgo hB hBr2⟩
        case measure => simp [intOf]; omega
      | true =>
        obtain ⟨_, _, hv3, _, _⟩ := valid_out hbv
        dsimp only at hv3
        obtain ⟨mn, hmn⟩ : ∃ q : Nat, tm = (q : Int) := ⟨tm.toNat, by omega⟩
        subst hmn
        have zp : w2.cell? ⟨Bp, 0, none⟩ = some (.string person) := by rw [Lib.cell_of_heap hat2.p]; rfl
        have zm : w2.cell? ⟨Bm, 0, none⟩ = some (.int .i64 (mo : Int)) := by rw [Lib.cell_of_heap hat2.m]; rfl
        have y0 : w2.cell? ⟨Y, 0, none⟩ = some (.string te) := by rw [Lib.cell_of_heap g2]; rfl
        have y1 : w2.cell? ⟨Y, 1, none⟩ = some (.string tp) := by rw [Lib.cell_of_heap g2]; rfl
        have y2 : w2.cell? ⟨Y, 2, none⟩ = some (.int .i64 (mn : Int)) := by rw [Lib.cell_of_heap g2]; rfl
        have y3 : w2.cell? ⟨Y, 3, none⟩ = some (.int .i64 tg) := by rw [Lib.cell_of_heap g2]; rfl
        have y4 : w2.cell? ⟨Y, 4, none⟩ = some (.int .i64 tx) := by rw [Lib.cell_of_heap g2]; rfl
        have d1 : (mn : Int).tdiv 12 = (mn : Int) / 12 := Int.tdiv_eq_ediv_of_nonneg (by omega)
        have d2 : (mo : Int).tdiv 12 = (mo : Int) / 12 := Int.tdiv_eq_ediv_of_nonneg (by omega)
        by_cases h1 : tp = person
        · have k1 : (tp.toList != person.toList) = false := by subst h1; simp
          have k1' : tp.toList = person.toList := by rw [h1]
          have k1'' : (tp.toList == person.toList) = true := beq_iff_eq.2 k1'
          by_cases h2 : mn < mo
          · have k2 : ¬ (mo : Int) ≤ (mn : Int) := by omega
            by_cases h3 : mn / 12 = mo / 12
            · have k3 : ((mn : Int) / 12 != (mo : Int) / 12) = false := by simp; omega
              obtain ⟨f1, f2⟩ := filter_at (p := cntB person (mo : Int)) Ht.out (by unfold cntB; rw [hbv, decide_eq_true h1, decide_eq_true (show (mn : Int) < (mo : Int) by omega), decide_eq_true (show (mn : Int) / 12 = (mo : Int) / 12 by omega)]; rfl)
              rw [hR.out] at f1
              have hyl := HY.out _ W0 w2 _ f1 HJk.out (bgo hB hBr2)
              dsimp only at hyl
              obtain ⟨fnY, tmpsY, assignY, bodyY, hy, hR1⟩ := hyl
              have HR1 := Lib.hid hR1
              have Hf2 := Lib.hid f2
              clear hR1 f1 f2 h1 h2 h3 hbv hat2
              go_upto_region 4 with fail
              clear zp zm d1 d2 k1 k1' k1'' k2 k3
              refine (wpIn_wide (n := m + 1)).1 ?_
              gi_wp2
              refine HR1.out.mono ?_
              rintro e W2 ⟨⟨rfl, hJ2⟩, hkeep, hsz2⟩
              have HJ2 := Lib.hid hJ2
              clear hkeep hy hJ2 y0 y1 y2 y3 y4
              gi_wp2
              go_wp2
              go_roundw
              case rel => exact ⟨k + 1, by omega, by go_num, W2, by rw [Hf2.out]; exact HJ2.out, Below.refl _ _⟩
              case measure => simp [intOf]; omega
            · have k3 : ((mn : Int) / 12 != (mo : Int) / 12) = true := by simp; omega
              have Hno := Lib.hid (filter_not (p := cntB person (mo : Int)) Ht.out (by unfold cntB; rw [hbv, decide_eq_false (show ¬ (mn : Int) / 12 = (mo : Int) / 12 by omega)]; simp))
              clear hbv h1 h2 h3
              go_wp2_with fail
              go_roundw
              case rel => exact ⟨k + 1, by omega, by go_num, W0, by rw [Hno.out]; exact HJk.out, bgo hB hBr2⟩
              case measure => simp [intOf]; omega
          · have k2 : (mo : Int) ≤ (mn : Int) := by omega
            have Hno := Lib.hid (filter_not (p := cntB person (mo : Int)) Ht.out (by unfold cntB; rw [hbv, decide_eq_false (show ¬ (mn : Int) < (mo : Int) by omega)]; simp))
            clear hbv h1 h2
            go_wp2_with fail
            go_roundw
            case rel => exact ⟨k + 1, by omega, by go_num, W0, by rw [Hno.out]; exact HJk.out, bgo hB hBr2⟩
            case measure => simp [intOf]; omega
        · have k1 : (tp.toList != person.toList) = true := by
            rw [bne_iff_ne]
            intro e
            rw [ByteArray.toList_eq, ByteArray.toList_eq] at e
            exact h1 (bytes_eq e)
          have k1' : ¬ tp.toList = person.toList := bne_iff_ne.1 k1
          have k1'' : (tp.toList == person.toList) = false := beq_eq_false_iff_ne.2 k1'
          have Hno := Lib.hid (filter_not (p := cntB person (mo : Int)) Ht.out (by unfold cntB; rw [hbv, decide_eq_false h1]; rfl))
          clear hbv h1
          go_wp2_with fail
          go_roundw
          case rel => exact ⟨k + 1, by omega, by go_num, W0, by rw [Hno.out]; exact HJk.out, bgo hB hBr2⟩
          case measure => simp [intOf]; omega
    · obtain rfl : n = k := by omega
      have hlen : ((ts.take n).filter (cntB person (mo : Int))).length = R.length := by rw [List.take_of_length_le (by rw [Hn.out]; exact Nat.le_refl _), hR.out]
      rw [hlen] at HJk
      go_wp2
      refine bodyPost_end (results_none rfl _ _ _) rfl ?_
      exact ⟨⟨_, rfl⟩, W0, hB, HJk.out⟩
end Go.Proofs.YtpmakhfpdidleaaDoor
namespace Go.Proofs.YtpmakhfpdidleaaDoor
open Go.RowKit Go.Shelf Go.Maps
set_option linter.unusedVariables false
set_option linter.unusedSimpArgs false
set_option maxRecDepth 100000
theorem lawS : Keyed Tryd.prog 9 := string_keyed Tryd.underlying9
def kE (t : TotD) : Lit := .string t.e.data.toList
def entT (t : TotD) : Lit × DataW Value := (kE t, .held (totV t))
open Classical in
/-- How a total reads as an element of the map. -/
noncomputable def totR (v : Value) : Option (DataW Value × List MemPlace) := if ∃ t, v = totV t then some (.held v, []) else none
theorem totR_mk (t : TotD) : totR (totV t) = some (.held (totV t), []) := by
  unfold totR
  rw [if_pos ⟨t, rfl⟩]
theorem totR_inv {v : Value} {y : DataW Value × List MemPlace} (h : totR v = some y) : (∃ t, v = totV t) ∧ y = (.held v, []) := by
  unfold totR at h
  split at h
  · rename_i hx
    exact ⟨hx, (Option.some.inj h).symm⟩
  · cases h
theorem totV_inj {t u : TotD} (h : totV t = totV u) : t = u := by
  unfold totV totC at h
  obtain ⟨te, tp, tm, tg, tx⟩ := t
  obtain ⟨ue, up, um, ug, ux⟩ := u
  simp at h
  obtain ⟨a, b, c, d, e⟩ := h
  subst a b c d e
  rfl
theorem kE_inj {t u : TotD} (h : kE t = kE u) : t.e = u.e := by
  unfold kE at h
  injection h with h
  exact bytes_eq h
/-- The last total of an employer. -/
def lastT (e : ByteArray) (acc : List TotD) : Option TotD := acc.find? (fun u => decide (u.e = e))
def updT (acc : List TotD) (t : TotD) : List TotD := t :: acc.filter (fun u => decide (¬ u.e = t.e))
def stepT (acc : List TotD) (t : TotD) : List TotD := match lastT t.e acc with
  | none => updT acc t
  | some u => if u.m ≤ t.m then updT acc t else acc
def lateL (l : List TotD) : List TotD := l.foldl stepT []
def OneE (acc : List TotD) : Prop := acc.Pairwise (fun a b => a.e ≠ b.e)
theorem updT_one {acc : List TotD} (h : OneE acc) (t : TotD) : OneE (updT acc t) := by
  refine List.pairwise_cons.2 ⟨fun u hu => ?_, h.filter _⟩
  exact fun e => of_decide_eq_true (List.mem_filter.1 hu).2 e.symm
theorem stepT_one {acc : List TotD} (h : OneE acc) (t : TotD) : OneE (stepT acc t) := by
  unfold stepT
  split
  · exact updT_one h t
  · split
    · exact updT_one h t
    · exact h
theorem updT_mem {acc : List TotD} {t u : TotD} (h : u ∈ updT acc t) : u = t ∨ u ∈ acc := by
  rcases List.mem_cons.1 h with h | h
  · exact .inl h
  · exact .inr (List.mem_filter.1 h).1
theorem stepT_mem {acc : List TotD} {t u : TotD} (h : u ∈ stepT acc t) : u = t ∨ u ∈ acc := by
  unfold stepT at h
  split at h
  · exact updT_mem h
  · split at h
    · exact updT_mem h
    · exact .inr h
theorem updT_len {acc : List TotD} (t : TotD) : (updT acc t).length ≤ acc.length + 1 := by
  unfold updT
  rw [List.length_cons]
  exact Nat.succ_le_succ (List.length_filter_le _ _)
theorem stepT_len {acc : List TotD} (t : TotD) : (stepT acc t).length ≤ acc.length + 1 := by
  unfold stepT
  split
  · exact updT_len t
  · split
    · exact updT_len t
    · omega
/-- The map holds the latest totals. -/
structure Late (acc : List TotD) (D : DataW Value) : Prop where
  ex : ∃ es, D = .map es ∧ es.Perm (acc.map entT)
  one : OneE acc
theorem Late.new : Late [] (.map []) := ⟨⟨[], rfl, .refl _⟩, List.Pairwise.nil⟩
theorem same_str (a b : List UInt8) : Lit.sameKey (.string a) (.string b) = decide (a = b) := by
  by_cases h : a = b
  · subst h; simp [Lit.sameKey]
  · simp [Lit.sameKey, h]
theorem notKey_ent (t u : TotD) : ChangeMaps.notKey (kE t) (entT u) = decide (¬ u.e = t.e) := by
  unfold ChangeMaps.notKey entT kE
  dsimp only
  rw [same_str]
  by_cases h : u.e = t.e
  · rw [decide_eq_true (show u.e.data.toList = t.e.data.toList by rw [h]), decide_eq_false (fun k => k h)]
    rfl
  · rw [decide_eq_false (show ¬ u.e.data.toList = t.e.data.toList from fun k => h (bytes_eq k)), decide_eq_true h]
    rfl
theorem Late.put {acc : List TotD} {D : DataW Value} (h : Late acc D) (t : TotD) : Late (updT acc t) (D.put (kE t) (.held (totV t))) := by
  obtain ⟨⟨es, rfl, hp⟩, ho⟩ := h
  refine ⟨⟨ChangeMaps.putKey (kE t) (.held (totV t)) es, DataW.put_eq _ _ _, ?_⟩, updT_one ho t⟩
  unfold ChangeMaps.putKey
  refine (Go.WideShapes.insert_perm _ _).trans ?_
  show List.Perm (entT t :: es.filter (ChangeMaps.notKey (kE t))) (entT t :: (acc.filter _).map entT)
  refine List.Perm.cons _ ((hp.filter _).trans ?_)
  rw [List.filter_map]
  have : (ChangeMaps.notKey (kE t) ∘ entT) = fun u => decide (¬ u.e = t.e) := funext fun u => notKey_ent t u
  rw [this]
theorem lastT_some {e : ByteArray} {acc : List TotD} {u : TotD} (h : lastT e acc = some u) : u ∈ acc ∧ u.e = e := by
  unfold lastT at h
  have h2 := List.find?_some h
  exact ⟨List.mem_of_find?_eq_some h, of_decide_eq_true h2⟩
theorem lastT_none {e : ByteArray} {acc : List TotD} (h : lastT e acc = none) (u : TotD) (hu : u ∈ acc) : ¬ u.e = e := by
  have := List.find?_eq_none.1 h u hu
  simpa using this
theorem OneE.eq {acc : List TotD} (h : OneE acc) {t u : TotD} (ht : t ∈ acc) (hu : u ∈ acc) (he : t.e = u.e) : t = u := by
  induction acc with
  | nil => cases ht
  | cons a r ih =>
    obtain ⟨h1, h2⟩ := List.pairwise_cons.1 h
    rcases List.mem_cons.1 ht with e1 | t1
    · rcases List.mem_cons.1 hu with e2 | u1
      · rw [e1, e2]
      · exact absurd (e1 ▸ he) (h1 u u1)
    · rcases List.mem_cons.1 hu with e2 | u1
      · exact absurd (e2 ▸ he).symm (h1 t t1)
      · exact ih h2 t1 u1
theorem Late.has_some {acc : List TotD} {D : DataW Value} (h : Late acc D) {u : TotD} (hu : u ∈ acc) : has D (kE u) = true ∧ ∀ zd, D.atKey (kE u) zd = .held (totV u) := by
  obtain ⟨⟨es, rfl, hp⟩, ho⟩ := h
  have hm : entT u ∈ es := hp.mem_iff.2 (List.mem_map.2 ⟨u, hu, rfl⟩)
  have hsame : (kE u).sameKey (kE u) = true := by unfold kE; rw [same_str]; simp
  constructor
  · exact List.any_eq_true.2 ⟨entT u, hm, hsame⟩
  · intro zd
    have hf : es.find? (fun p => p.1.sameKey (kE u)) = some (entT u) := by
      cases hf : es.find? (fun p => p.1.sameKey (kE u)) with
      | none => exact absurd hsame (List.find?_eq_none.1 hf (entT u) hm)
      | some p =>
        obtain ⟨v, hv, rfl⟩ := List.mem_map.1 (hp.mem_iff.1 (List.mem_of_find?_eq_some hf))
        have hk := List.find?_some hf
        have : v.e = u.e := by
          have h1 : (entT v).1.sameKey (kE u) = true := hk
          unfold entT kE at h1
          dsimp only at h1
          rw [same_str] at h1
          exact bytes_eq (of_decide_eq_true h1)
        rw [ho.eq hv hu this]
    simp [DataW.atKey, hf, entT]
theorem Late.has_none {acc : List TotD} {D : DataW Value} (h : Late acc D) {e : ByteArray} (hu : ∀ u ∈ acc, ¬ u.e = e) : has D (.string e.data.toList) = false ∧ ∀ zd, D.atKey (.string e.data.toList) zd = zd := by
  obtain ⟨⟨es, rfl, hp⟩, ho⟩ := h
  have hall : ∀ p ∈ es, p.1.sameKey (.string e.data.toList) = false := by
    intro p hpm
    obtain ⟨v, hv, rfl⟩ := List.mem_map.1 (hp.mem_iff.1 hpm)
    unfold entT kE
    dsimp only
    rw [same_str]
    exact decide_eq_false fun k => hu v hv (bytes_eq k)
  constructor
  · unfold has
    rw [List.any_eq_false]
    intro p hp h
    rw [hall p hp] at h
    cases h
  · intro zd
    have hf : es.find? (fun p => p.1.sameKey (.string e.data.toList)) = none := List.find?_eq_none.2 fun p hp h => by rw [hall p hp] at h; cases h
    simp [DataW.atKey, hf]
theorem Late.mem_of_has {acc : List TotD} {D : DataW Value} (h : Late acc D) {kl : Lit} (hk : has D kl = true) : ∃ u ∈ acc, kE u = kl := by
  obtain ⟨⟨es, rfl, hp⟩, ho⟩ := h
  obtain ⟨p, hpm, hs⟩ := List.any_eq_true.1 hk
  obtain ⟨v, hv, rfl⟩ := List.mem_map.1 (hp.mem_iff.1 hpm)
  exact ⟨v, hv, WideAt.sameKey_eq hs⟩
/-- What the range has brought so far. -/
def sumN (f : TotD → Int) (left : Lit → Bool) (acc : List TotD) : Int := ((acc.filter (fun t => !left (kE t))).map f).sum
def sumA (f : TotD → Int) (acc : List TotD) : Int := (acc.map f).sum
theorem sumN_start (f : TotD → Int) {acc : List TotD} {D : DataW Value} (h : Late acc D) : sumN f (has D) acc = 0 := by
  unfold sumN
  have : acc.filter (fun t => !has D (kE t)) = [] := by
    rw [List.filter_eq_nil_iff]
    intro t ht
    rw [(h.has_some ht).1]
    decide
  rw [this]
  rfl
theorem sumN_end (f : TotD → Int) {acc : List TotD} {left : Lit → Bool} (h : ∀ kl, left kl = false) : sumN f left acc = sumA f acc := by
  unfold sumN sumA
  have : acc.filter (fun t => !left (kE t)) = acc := by
    rw [List.filter_eq_self]
    intro t ht
    rw [h]
    rfl
  rw [this]
theorem sumN_miss (f : TotD → Int) (left : Lit → Bool) (u : TotD) : ∀ acc : List TotD, (∀ t ∈ acc, ¬ t.e = u.e) → sumN f (fun z => left z && !z.sameKey (kE u)) acc = sumN f left acc := by
  intro acc h
  unfold sumN
  congr 2
  refine List.filter_congr fun t ht => ?_
  show (!(left (kE t) && !(kE t).sameKey (kE u))) = _
  have : (kE t).sameKey (kE u) = false := by
    unfold kE
    rw [same_str]
    exact decide_eq_false fun k => h t ht (bytes_eq k)
  rw [this]
  cases left (kE t) <;> rfl
theorem sumN_step (f : TotD → Int) (left : Lit → Bool) (u : TotD) (hl : left (kE u) = true) : ∀ acc : List TotD, OneE acc → u ∈ acc → sumN f (fun z => left z && !z.sameKey (kE u)) acc = sumN f left acc + f u := by
  intro acc
  induction acc with
  | nil => intro _ h; cases h
  | cons a r ih =>
    intro ho hu
    obtain ⟨h1, h2⟩ := List.pairwise_cons.1 ho
    have hsame : (kE u).sameKey (kE u) = true := by unfold kE; rw [same_str]; simp
    have hc : ∀ (g : Lit → Bool) (x : TotD) (l : List TotD), sumN f g (x :: l) = (if !g (kE x) then f x else 0) + sumN f g l := by
      intro g x l
      unfold sumN
      rw [List.filter_cons]
      split
      · rw [List.map_cons, List.sum_cons]
      · rw [Int.zero_add]
    rw [hc, hc]
    rcases List.mem_cons.1 hu with e | hr
    · subst e
      rw [sumN_miss f left u r (fun t ht e => h1 t ht e.symm), hsame, hl]
      simp
      omega
    · have hne : ¬ a.e = u.e := h1 u hr
      rw [ih h2 hr]
      have : (kE a).sameKey (kE u) = false := by
        unfold kE
        rw [same_str]
        exact decide_eq_false fun k => hne (bytes_eq k)
      rw [this]
      cases left (kE a) <;> simp <;> omega
theorem sumN_le (f : TotD → Int) (left : Lit → Bool) : ∀ acc : List TotD, (∀ t ∈ acc, -1000000000000 ≤ f t ∧ f t ≤ 1000000000000) → -1000000000000 * (acc.length : Int) ≤ sumN f left acc ∧ sumN f left acc ≤ 1000000000000 * (acc.length : Int) := by
  intro acc
  induction acc with
  | nil => intro _; unfold sumN; simp
  | cons a r ih =>
    intro h
    have h0 := ih fun t ht => h t (.tail _ ht)
    have h1 := h a (.head _)
    have hc : sumN f left (a :: r) = (if !left (kE a) then f a else 0) + sumN f left r := by
      unfold sumN
      rw [List.filter_cons]
      split
      · rw [List.map_cons, List.sum_cons]
      · rw [Int.zero_add]
    rw [hc, List.length_cons]
    split <;> omega
/-- What Before returns. -/
def befT (person : ByteArray) (month : Int) (ts : List TotD) : List TotD := lateL (ts.filter (cntB person month))
theorem late_take_succ {l : List TotD} {k : Nat} {t : TotD} (h : l[k]? = some t) : lateL (l.take (k + 1)) = stepT (lateL (l.take k)) t := by
  unfold lateL
  rw [List.take_add_one, h, Option.toList_some, List.foldl_append]
  rfl
theorem lateL_mem : ∀ (l acc : List TotD) {u : TotD}, u ∈ l.foldl stepT acc → u ∈ l ∨ u ∈ acc
  | [], acc, u, h => .inr h
  | x :: l, acc, u, h => by
    rcases lateL_mem l _ h with h | h
    · exact .inl (.tail _ h)
    · rcases stepT_mem h with h | h
      · exact .inl (h ▸ .head _)
      · exact .inr h
theorem lateL_len : ∀ (l acc : List TotD), (l.foldl stepT acc).length ≤ l.length + acc.length
  | [], acc => by simp
  | x :: l, acc => by
    have h1 := lateL_len l (stepT acc x)
    have h2 := stepT_len (acc := acc) x
    rw [List.foldl_cons, List.length_cons]
    omega
theorem lateL_one : ∀ (l acc : List TotD), OneE acc → OneE (l.foldl stepT acc)
  | [], acc, h => h
  | x :: l, acc, h => lateL_one l _ (stepT_one h x)
theorem zeroT (w : World) : (zeroValue 25).run Tryd.prog w = .ok (totV ⟨⟨#[]⟩, ⟨#[]⟩, 0, 0, 0⟩) w := by kernel_rfl
theorem look_some {W : World} {b n : Nat} {D : DataW Value} {acc : List TotD} (te : ByteArray) (hte : te.size ≤ maxLen) (h : W.ownsMap Tryd.prog 9 totR b n D) (hs : Late acc D) (ue up : ByteArray) (um ug ux : Int) (hu : lastT te acc = some ⟨ue, up, um, ug, ux⟩) :
    (Instr.lookup 65 (.map (some b)) (.string te) true).run Tryd.prog W = .ok (.tuple #[.agg #[.string ue, .string up, .int .i64 um, .int .i64 ug, .int .i64 ux], .bool true]) W := by
  obtain ⟨v, ps, hrun, hv⟩ := h.look_ok lawS Tryd.underlying65 (zeroT _) (totR_mk _) (WideMaps.keyOf_string_mk Tryd.underlying9 hte)
  obtain ⟨hm, he⟩ := lastT_some hu
  obtain ⟨h1, h2⟩ := hs.has_some hm
  have hk : kE ⟨ue, up, um, ug, ux⟩ = .string te.data.toList := by rw [← he]; rfl
  rw [hk] at h1 h2
  rw [h2] at hv
  obtain ⟨_, hv2⟩ := totR_inv hv
  injection hv2 with hv2 _
  injection hv2 with hv2
  rw [h1, ← hv2] at hrun
  exact hrun
theorem look_none {W : World} {b n : Nat} {D : DataW Value} {acc : List TotD} (te : ByteArray) (hte : te.size ≤ maxLen) (h : W.ownsMap Tryd.prog 9 totR b n D) (hs : Late acc D) (hu : lastT te acc = none) :
    (Instr.lookup 65 (.map (some b)) (.string te) true).run Tryd.prog W = .ok (.tuple #[.agg #[.string ⟨#[]⟩, .string ⟨#[]⟩, .int .i64 0, .int .i64 0, .int .i64 0], .bool false]) W := by
  obtain ⟨v, ps, hrun, hv⟩ := h.look_ok lawS Tryd.underlying65 (zeroT _) (totR_mk _) (WideMaps.keyOf_string_mk Tryd.underlying9 hte)
  obtain ⟨h1, h2⟩ := hs.has_none (lastT_none hu)
  rw [h2] at hv
  obtain ⟨_, hv2⟩ := totR_inv hv
  injection hv2 with hv2 _
  injection hv2 with hv2
  rw [h1, ← hv2] at hrun
  exact hrun
theorem store_ok {W : World} {b n : Nat} {D : DataW Value} {acc : List TotD} (te tp : ByteArray) (tm tg tx : Int) (hte : te.size ≤ maxLen) (hn : n < maxLen) (h : W.ownsMap Tryd.prog 9 totR b n D) (hs : Late acc D) :
    ∃ w', (Instr.mapUpdate 65 (.map (some b)) (.string te) (.agg #[.string te, .string tp, .int .i64 tm, .int .i64 tg, .int .i64 tx])).run Tryd.prog W = .ok () w' ∧ (∃ D', w'.ownsMap Tryd.prog 9 totR b (n + 1) D' ∧ Late (updT acc ⟨te, tp, tm, tg, tx⟩) D') ∧ W.grownBy w' (some b) := by
  obtain ⟨w', h1, h2, h3⟩ := h.update lawS Tryd.underlying65 hn (WideMaps.keyOf_string_mk Tryd.underlying9 hte) (totR_mk ⟨te, tp, tm, tg, tx⟩)
  exact ⟨w', h1, ⟨_, h2, hs.put ⟨te, tp, tm, tg, tx⟩⟩, h3⟩
/-- The step of a range over the map. -/
theorem next_tot (w : World) {ops : Array Oper} {rest : List Oper} {o : Oper} {a : Act} {Q : Exit → Act → World → Prop} (hg : o.guard = none) (it : Operand) (hop : o.op = Op.next it false)
    (b r n : Nat) (D : DataW Value) (left : Lit → Bool) (cnt : Nat) (acc : List TotD) (hs : Late acc D)
    (hit : a.eval it = .pointer (some ⟨r, 0, none⟩)) (h : w.ranges Tryd.prog 9 totR b r n D left cnt)
    (hDone : cnt = 0 → (∀ kl, left kl = false) → wpList Tryd.prog ops Q rest (a.put o.dst (.tuple #[.bool false])) w)
    (hMore : ∀ (te tp : ByteArray) (tm tg tx : Int) (w' : World) (cnt' : Nat), (⟨te, tp, tm, tg, tx⟩ : TotD) ∈ acc → left (kE ⟨te, tp, tm, tg, tx⟩) = true → w'.ranges Tryd.prog 9 totR b r n D (fun z => left z && !z.sameKey (kE ⟨te, tp, tm, tg, tx⟩)) cnt' → cnt' < cnt →
      w.grownBy w' (some r) → w'.heap.size = w.heap.size → (Instr.entry (.pointer (some ⟨r, 0, none⟩))).run Tryd.prog w' = .ok (.tuple #[.string te, .agg #[.string te, .string tp, .int .i64 tm, .int .i64 tg, .int .i64 tx]]) w' → wpList Tryd.prog ops Q rest (a.put o.dst (.tuple #[.bool true, .string te, .agg #[.string te, .string tp, .int .i64 tm, .int .i64 tg, .int .i64 tx]])) w') :
    wpList Tryd.prog ops Q (o :: rest) a w := by
  refine wpList_next_ranges w hg it hop 9 lawS totR (fun s : ByteArray => Value.string s) totV ?_ (fun v y hv => (totR_inv hv).1) b r n D left cnt hit h hDone ?_
  · intro key kl hkey
    cases key <;> simp [keyOf, Tryd.underlying9, mapKey] at hkey
    exact ⟨_, rfl⟩
  · intro x c kl y w' cnt' hkey hlk hv hat hrg hlt hgr hsz hen
    obtain ⟨_, rfl⟩ := totR_inv hv
    obtain ⟨u, hu, hk⟩ := hs.mem_of_has (has_true_of_atKey hat)
    have h2 := (hs.has_some hu).2 .nil
    rw [hk, hat] at h2
    injection h2 with h2
    have hcu := totV_inj h2
    subst hcu
    have hx : x = c.e := by
      have h3 : keyOf Tryd.prog 9 (.string x) = some kl := hkey
      unfold keyOf at h3
      simp [Tryd.underlying9, mapKey] at h3
      rw [← hk] at h3
      unfold kE at h3
      have h4 := h3.2
      first
        | exact bytes_eq (by simpa using h4)
        | (injection h4 with h4; exact bytes_eq h4)
    subst hx
    obtain ⟨ce, cp, cm, cg, cx⟩ := c
    rw [← hk] at hlk hrg
    exact hMore ce cp cm cg cx w' cnt' hu hlk hrg hlt hgr hsz hen
end Go.Proofs.YtpmakhfpdidleaaDoor
