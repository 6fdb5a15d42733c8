/- The walk of onetime.Reused: the first two texts that were signed with one key. -/
import Derived.Test.YthgkjcofmkkdcaaDoorOnW6
import Derived.Maps.OwnSet
namespace Go.On
/-- The i-th and the j-th were signed with one key, and the texts differ. -/
def pairAt (is : List Int) (ts : List ByteArray) (i j : Nat) : Prop := i < j ∧ is.getD i 0 = is.getD j 0 ∧ ts.getD i ⟨#[]⟩ ≠ ts.getD j ⟨#[]⟩
/-- What Reused answers. -/
def Reu (is : List Int) (ts : List ByteArray) (n : Nat) : Option (Nat × Nat) → Prop
  | none => ∀ i j, j < n → ¬ pairAt is ts i j
  | some (i, j) => j < n ∧ pairAt is ts i j ∧ (∀ i' j', j' < j → ¬ pairAt is ts i' j') ∧ ∀ i', i' < i → ¬ pairAt is ts i' j
theorem Reu.uniq {is : List Int} {ts : List ByteArray} {n : Nat} {o o' : Option (Nat × Nat)} (h : Reu is ts n o) (h' : Reu is ts n o') : o = o' := by
  cases o with
  | none =>
    cases o' with
    | none => rfl
    | some x => exact absurd h'.2.1 (h _ _ h'.1)
  | some x =>
    cases o' with
    | none => exact absurd h.2.1 (h' _ _ h.1)
    | some y =>
      obtain ⟨i, j⟩ := x
      obtain ⟨i', j'⟩ := y
      obtain ⟨a1, a2, a3, a4⟩ := h
      obtain ⟨b1, b2, b3, b4⟩ := h'
      have e1 : ¬ j < j' := fun hl => b3 i j hl a2
      have e2 : ¬ j' < j := fun hl => a3 i' j' hl b2
      have e : j = j' := by omega
      subst e
      have e3 : ¬ i < i' := fun hl => b4 i hl a2
      have e4 : ¬ i' < i := fun hl => a4 i' hl b2
      have e : i = i' := by omega
      subst e
      rfl
theorem first_or (is : List Int) (x : Int) : ∀ k, (∀ j, j < k → is.getD j 0 ≠ x) ∨ ∃ i, i < k ∧ is.getD i 0 = x ∧ ∀ i', i' < i → is.getD i' 0 ≠ x
  | 0 => .inl fun j h => absurd h (Nat.not_lt_zero j)
  | k + 1 => by
    rcases first_or is x k with h | ⟨i, h1, h2, h3⟩
    · by_cases e : is.getD k 0 = x
      · exact .inr ⟨k, Nat.lt_succ_self k, e, h⟩
      · refine .inl fun j hj => ?_
        by_cases hjk : j < k
        · exact h j hjk
        · have : j = k := by omega
          subst this
          exact e
    · exact .inr ⟨i, by omega, h2, h3⟩
end Go.On
namespace Go.Proofs.YthgkjcofmkkdcaaDoor
open Go.RowKit Go.Shelf Go.Maps
set_option linter.unusedVariables false
structure Sg where
  i : Int
  A : Option Addr
  n : Nat
  ca : Nat
  B : Option Addr
  m : Nat
  cb : Nat
abbrev Sigs := List Sg
def sigsV : Sigs → List Value
  | [] => []
  | x :: l => .int .i64 x.i :: .slice x.A x.n x.ca :: .slice x.B x.m x.cb :: sigsV l
theorem sigsV_len (l : Sigs) : (sigsV l).length = l.length * 3 := by
  induction l with
  | nil => rfl
  | cons x l ih => simp [sigsV, ih]; omega
theorem sigsV_get (l : Sigs) (k : Nat) (h : k < l.length) : (sigsV l)[k * 3]? = some (.int .i64 (l[k]).i) ∧ (sigsV l)[k * 3 + 1]? = some (.slice (l[k]).A (l[k]).n (l[k]).ca) ∧ (sigsV l)[k * 3 + 2]? = some (.slice (l[k]).B (l[k]).m (l[k]).cb) := by
  induction l generalizing k with
  | nil => cases h
  | cons x l ih =>
    cases k with
    | zero => exact ⟨rfl, rfl, rfl⟩
    | succ k =>
      rw [show (k + 1) * 3 = k * 3 + 3 from by omega]
      exact ih k (by simpa using h)
def idxs (l : Sigs) : List Int := l.map (·.i)
theorem idxs_get (l : Sigs) (k : Nat) (h : k < l.length) : (idxs l).getD k 0 = (l[k]).i := by simp [idxs, h, List.getD]
def strs (ss : List ByteArray) (k : Nat) : ByteArray := ss.getD k ⟨#[]⟩
theorem strV_get (ss : List ByteArray) (k : Nat) (h : k < ss.length) : (strV ss)[k]? = some (.string (ss.getD k ⟨#[]⟩)) := by simp [strV, h, List.getD]
/-- What the map of first places holds after k rounds. -/
structure Seen (is : List Int) (k : Nat) (D : DataW Unit) : Prop where
  no : ∀ x, (∀ j, j < k → is.getD j 0 ≠ x) → Maps.has D (.int .i64 x) = false
  yes : ∀ j, j < k → (∀ i, i < j → is.getD i 0 ≠ is.getD j 0) → Maps.has D (.int .i64 (is.getD j 0)) = true ∧ D.atKey (.int .i64 (is.getD j 0)) (.lit (.int .i64 0)) = .lit (.int .i64 (j : Int))
theorem Seen.new (is : List Int) : Seen is 0 (.map []) := ⟨fun x _ => rfl, fun j h => absurd h (Nat.not_lt_zero j)⟩
theorem Seen.stay {is : List Int} {k : Nat} {D : DataW Unit} (h : Seen is k D) {i : Nat} (hi : i < k) (e : is.getD i 0 = is.getD k 0) : Seen is (k + 1) D := by
  refine ⟨fun x hx => h.no x fun j hj => hx j (by omega), fun j hj hf => ?_⟩
  by_cases hjk : j < k
  · exact h.yes j hjk hf
  · have : j = k := by omega
    subst this
    exact absurd e (hf i hi)
theorem Seen.put {is : List Int} {k : Nat} {D : DataW Unit} (h : Seen is k D) (hD : IsMap D) (hnew : ∀ j, j < k → is.getD j 0 ≠ is.getD k 0) : Seen is (k + 1) (D.put (.int .i64 (is.getD k 0)) (.lit (.int .i64 (k : Int)))) := by
  have hk : WideAt.IsKeyLit (.int .i64 (is.getD k 0)) := trivial
  refine ⟨fun x hx => ?_, fun j hj hf => ?_⟩
  · have hne : (Lit.int .i64 x) ≠ .int .i64 (is.getD k 0) := fun e => by injection e with _ e; exact hx k (by omega) e.symm
    rw [has_put_other hne]
    exact h.no x fun j hj => hx j (by omega)
  · by_cases hjk : j < k
    · by_cases e : is.getD j 0 = is.getD k 0
      · exact absurd e (hnew j hjk)
      · have hne : (Lit.int .i64 (is.getD j 0)) ≠ .int .i64 (is.getD k 0) := fun e' => by injection e' with _ e'; exact e e'
        rw [has_put_other hne, atKey_put_other hne]
        exact h.yes j hjk hf
    · have : j = k := by omega
      subst this
      exact ⟨has_put_same hD hk _, atKey_put_same hD hk _ _⟩
theorem bytes_ext {s t : ByteArray} (h : s.toList = t.toList) : s = t := by
  rw [ByteArray.toList_eq, ByteArray.toList_eq] at h
  exact WideShapes.bytes_inj h
def reuT : Option (Nat × Nat) → Value
  | none => .tuple #[.int .i64 0, .int .i64 0, .bool false]
  | some (i, j) => .tuple #[.int .i64 (i : Int), .int .i64 (j : Int), .bool true]
theorem lawI : Keyed Tryd.prog 3 := int_keyed Tryd.underlying3
theorem zeroI (w : World) : (zeroValue 3).run Tryd.prog w = .ok (.int .i64 0) w := by kernel_rfl
set_option maxRecDepth 100000 in
set_option maxHeartbeats 4000000 in
theorem reused_ok (A B : Option Addr) (ca cb n : Nat) (ss : List ByteArray) (sg : Sigs) (hl : ss.length = n) (hl' : sg.length = n) (w : World) (hA : Sl w w.heap.size 1 A n (strV ss)) (hB : Sl w w.heap.size 3 B n (sigsV sg))
    (hn : n ≤ 1048576) (hwf : ∀ x ∈ sg, (Lit.int .i64 x.i).wf = true) :
    Calls Tryd.prog 16 #[.slice A n ca, .slice B n cb] w fun e w' => ∃ o, e = .returned (reuT o) ∧ On.Reu (idxs sg) ss n o ∧ Below w.heap.size w w' := by
  have hmm := @run_makeMap Tryd.prog
  have HA := Lib.hid hA
  have HB := Lib.hid hB
  have Hwf := Lib.hid hwf
  clear hA hB hwf
  go_enter Tryd.func16, Tryd.ntmps16
  go_wp2
  go_loopw [20] (fun i wr => ∃ k : Nat, k ≤ n ∧ i = .int .i64 k ∧ (∃ D, wr.ownsMap Tryd.prog 3 (plainElem Tryd.prog 3) w.heap.size k D ∧ Seen (idxs sg) k D) ∧ (∀ i j, j < k → ¬ On.pairAt (idxs sg) ss i j) ∧ Below w.heap.size w wr ∧ w.heap.size < wr.heap.size) (fun i _ => n - (intOf i).toNat)
  case atStart => exact ⟨0, Nat.zero_le _, rfl, ⟨_, World.ownsMap_made _ _ _ _, Seen.new _⟩, fun i j h => absurd h (Nat.not_lt_zero j), (Below.refl _ _).alloc (Nat.le_refl _) _, by simp⟩
  case round =>
    obtain ⟨k, hk, rfl, ⟨D, hown, hseen⟩, hno, hBw, hsz⟩ := hrel
    by_cases hlt : k < n
    · obtain ⟨b, off, rfl, hb, hcell⟩ := HA.out.2 (by omega)
      obtain ⟨b', off', rfl, hb', hcell'⟩ := HB.out.2 (by omega)
      have hlts : k < sg.length := by omega
      obtain ⟨g0, g1, g2⟩ := sigsV_get sg k hlts
      have hw := Hwf.out _ (List.getElem_mem hlts)
      have hix := idxs_get sg k hlts
      obtain ⟨x, hx⟩ : ∃ x, x = (sg[k]).i := ⟨_, rfl⟩
      obtain ⟨⟨i_, A_, n_, ca_, B_, m_, cb_⟩, hy⟩ : ∃ y, y = sg[k] := ⟨_, rfl⟩
      rw [← hx] at g0 hw hix
      rw [← hy] at g1 g2
      have hc0 : wr.cell? ⟨b', off' + k * 3, none⟩ = some (.int .i64 x) := (hBw.cell (p := ⟨b', off' + k * 3, none⟩) hb').trans (hcell' _ _ g0)
      have hc1 : wr.cell? ⟨b', off' + k * 3 + 1, none⟩ = some (.slice A_ n_ ca_) := (hBw.cell (p := ⟨b', off' + k * 3 + 1, none⟩) hb').trans (by rw [Nat.add_assoc]; exact hcell' _ _ g1)
      have hc2 : wr.cell? ⟨b', off' + k * 3 + 2, none⟩ = some (.slice B_ m_ cb_) := (hBw.cell (p := ⟨b', off' + k * 3 + 2, none⟩) hb').trans (by rw [Nat.add_assoc]; exact hcell' _ _ g2)
      have hlt' : (k : Int) < (n : Int) := by omega
      have hkey := keyOf_int_mk Tryd.underlying3 hw
      have Hown := Lib.hid hown
      have Hseen := Lib.hid hseen
      have Hno := Lib.hid hno
      have Hix := Lib.hid hix
      clear hx hy g0 g1 g2 hown hseen hno hix hlts hw
      have G := Lib.hid (And.intro hcell hcell')
      clear hcell hcell'
      obtain ⟨o9, ho9⟩ : ∃ o9, o9 = Obj.cells #[.int .i64 x, .slice A_ n_ ca_, .slice B_ m_ cb_] 27 := ⟨_, rfl⟩
      have hown9 := Hown.out.alloc o9
      obtain ⟨v, ps, hlook, hv⟩ := hown9.look_ok lawI Tryd.underlying70 (zeroI _) (plainElem_int Tryd.underlying3 (show (Lit.int .i64 0).wf = true by decide)) hkey
      obtain ⟨c, rfl, hc, hwc⟩ := plainElem_int_inv Tryd.underlying3 hv
      have Hc := Lib.hid (congrArg Prod.fst hc)
      have Hown9 := Lib.hid hown9
      rw [ho9] at hlook Hown9
      clear hc hv hwc hown9 ho9
      rcases On.first_or (idxs sg) x k with hnew | ⟨i, hik, hie, hif⟩
      · have hhas : Maps.has D (.int .i64 x) = false := Hseen.out.no x hnew
        rw [hhas] at hlook
        have Hnew := Lib.hid hnew
        clear hnew hhas
        go_wp2_with (first
          | (at_mapUpdate; refine wpList_mapUpdate_own _ rfl _ _ _ 70 rfl 3 3 lawI Tryd.underlying70 _ w.heap.size k D rfl Hown9.out (by unfold maxLen; omega) _ _ _ rfl rfl hkey _ [] (plainElem_int Tryd.underlying3 (WalkArith.wf_i64 (by omega))) ?_; intro w1 hown1 hgrow1)
          | go_in)
        have hB1 : Below w.heap.size w w1 := (hBw.alloc hBw.size _).grown hgrow1 (by have := hBw.size; simp; omega) (fun j hj => by cases hj; exact Nat.le_refl _)
        have hs1 := hgrow1.size
        rw [World.size_alloc] at hs1
        have Hown1 := Lib.hid hown1
        clear hown1 hgrow1
        go_wp2
        go_roundw
        case rel =>
          refine ⟨k + 1, by omega, by go_num, ⟨_, Hown1.out, ?_⟩, ?_, hB1, by omega⟩
          · have := Hseen.out.put Hown.out.isMap (by rw [Hix.out]; exact Hnew.out)
            rw [Hix.out] at this
            exact this
          · intro i j hj hp
            by_cases hjk : j < k
            · exact Hno.out i j hjk hp
            · have : j = k := by omega
              subst this
              exact Hnew.out i hp.1 (hp.2.1.trans Hix.out)
        case measure => simp [intOf]; omega
      · obtain ⟨hhas, hat0⟩ := Hseen.out.yes i hik (by rw [hie]; exact hif)
        rw [hie] at hhas hat0
        have hci : c = (i : Int) := by
          have := hat0.symm.trans Hc.out
          injection this with this
          injection this with _ this
          exact this.symm
        rw [hhas, hci] at hlook
        clear hhas hat0 hci Hc
        have hs1 : (wr.alloc (.cells #[.int .i64 x, .slice A_ n_ ca_, .slice B_ m_ cb_] 27)).cell? ⟨b, off + i, none⟩ = some (.string (ss.getD i ⟨#[]⟩)) := ((bal hBw _).cell (p := ⟨b, off + i, none⟩) hb).trans (G.out.1 i _ (strV_get ss i (by omega)))
        have hs2 : (wr.alloc (.cells #[.int .i64 x, .slice A_ n_ ca_, .slice B_ m_ cb_] 27)).cell? ⟨b, off + k, none⟩ = some (.string (ss.getD k ⟨#[]⟩)) := ((bal hBw _).cell (p := ⟨b, off + k, none⟩) hb).trans (G.out.1 k _ (strV_get ss k (by omega)))
        obtain ⟨t1, ht1⟩ : ∃ t, ss.getD i ⟨#[]⟩ = t := ⟨_, rfl⟩
        obtain ⟨t2, ht2⟩ : ∃ t, ss.getD k ⟨#[]⟩ = t := ⟨_, rfl⟩
        rw [ht1] at hs1
        rw [ht2] at hs2
        have Ht := Lib.hid (And.intro ht1 ht2)
        have Hi := Lib.hid (And.intro hie hif)
        have hin : (i : Int) < (n : Int) := by omega
        have hin' : i < n := by omega
        clear ht1 ht2 hie hif
        by_cases htt : t1 = t2
        · subst htt
          go_wp2
          go_region
          go_wp2
          go_roundw
          case rel =>
            refine ⟨k + 1, by omega, by go_num, ⟨D, ?_, Hseen.out.stay hik (Hi.out.1.trans Hix.out.symm)⟩, ?_, (bal hBw _).drew, by simp; omega⟩
            · obtain ⟨es, clock, q1, q2, q3, q4⟩ := Hown9.out
              exact ⟨es, clock, q1, q2, by omega, q4⟩
            · intro i' j hj hp
              by_cases hjk : j < k
              · exact Hno.out i' j hjk hp
              · have : j = k := by omega
                subst this
                by_cases hii : i < i'
                · refine Hno.out i i' hp.1 ⟨hii, Hi.out.1.trans (hp.2.1.trans Hix.out).symm, ?_⟩
                  rw [Ht.out.1, ← Ht.out.2]
                  exact fun e => hp.2.2 e.symm
                · by_cases hii' : i' < i
                  · exact Hi.out.2 i' hii' (hp.2.1.trans Hix.out)
                  · have : i' = i := by omega
                    subst this
                    exact hp.2.2 (Ht.out.1.trans Ht.out.2.symm)
          case measure => simp [intOf]; omega
        · have hne : (t1.toList == t2.toList) = false := beq_eq_false_iff_ne.2 (fun e => htt (bytes_ext e))
          have Htt := Lib.hid htt
          clear htt
          go_wp2
          go_region
          go_wp2
          go_ret3
          refine ⟨some (i, k), rfl, ⟨hlt, ⟨hik, Hi.out.1.trans Hix.out.symm, by rw [Ht.out.1, Ht.out.2]; exact Htt.out⟩, Hno.out, ?_⟩, (bal hBw _).drew⟩
          intro i' hi' hp
          exact Hi.out.2 i' hi' (hp.2.1.trans Hix.out)
    · obtain rfl : k = n := by omega
      have Hno := Lib.hid hno
      clear hno
      go_wp2
      go_ret3
      exact ⟨none, rfl, Hno.out, hBw⟩
theorem reused_bad (A B : Option Addr) (ca cb n m : Nat) (hne : n ≠ m) (hn : n ≤ 1048576) (hm : m ≤ 1048576) (w : World) :
    Calls Tryd.prog 16 #[.slice A n ca, .slice B m cb] w fun e w' => e = .returned (reuT none) ∧ w = w' := by
  have hd : ((n : Int) == (m : Int)) = false := beq_eq_false_iff_ne.2 (by omega)
  have hd' : ((n : Int) != (m : Int)) = true := by simp [bne, hd]
  go_enter Tryd.func16, Tryd.ntmps16
  go_wp2
  go_ret3
  exact ⟨rfl, rfl⟩
end Go.Proofs.YthgkjcofmkkdcaaDoor
