/- The walk of onetime.Reused: the first two texts that were signed with one key. Sign where there is no key; what a signature leads to; usable and light of the law package. The walks of package handover, third part: Issue. -/
import Derived.Test.YtpmakhfpdidleaaDoorQ12
import Derived.Maps.OwnSet
import Derived.Test.YtpmakhfpdidleaaDoorQ09
import Derived.Test.YtpmakhfpdidleaaDoorQ14
namespace Go.On
/-- The i-th and the j-th were signed with one key, and the texts differ. -/
def pairAt (is : List Int) (ts : List ByteArray) (i j : Nat) : Prop := i < j ∧ is.getD i 0 = is.getD j 0 ∧ ts.getD i ⟨#[]⟩ ≠ ts.getD j ⟨#[]⟩
/-- What Reused answers. -/
def Reu (is : List Int) (ts : List ByteArray) (n : Nat) : Option (Nat × Nat) → Prop
  | none => ∀ i j, j < n → ¬ pairAt is ts i j
  | some (i, j) => j < n ∧ pairAt is ts i j ∧ (∀ i' j', j' < j → ¬ pairAt is ts i' j') ∧ ∀ i', i' < i → ¬ pairAt is ts i' j
theorem Reu.uniq {is : List Int} {ts : List ByteArray} {n : Nat} {o o' : Option (Nat × Nat)} (h : Reu is ts n o) (h' : Reu is ts n o') : o = o' := by
  cases o with
  | none =>
    cases o' with
    | none => rfl
    | some x => exact absurd h'.2.1 (h _ _ h'.1)
  | some x =>
    cases o' with
    | none => exact absurd h.2.1 (h' _ _ h.1)
    | some y =>
      obtain ⟨i, j⟩ := x
      obtain ⟨i', j'⟩ := y
      obtain ⟨a1, a2, a3, a4⟩ := h
      obtain ⟨b1, b2, b3, b4⟩ := h'
      have e1 : ¬ j < j' := fun hl => b3 i j hl a2
      have e2 : ¬ j' < j := fun hl => a3 i' j' hl b2
      have e : j = j' := by omega
      subst e
      have e3 : ¬ i < i' := fun hl => b4 i hl a2
      have e4 : ¬ i' < i := fun hl => a4 i' hl b2
      have e : i = i' := by omega
      subst e
      rfl
theorem first_or (is : List Int) (x : Int) : ∀ k, (∀ j, j < k → is.getD j 0 ≠ x) ∨ ∃ i, i < k ∧ is.getD i 0 = x ∧ ∀ i', i' < i → is.getD i' 0 ≠ x
  | 0 => .inl fun j h => absurd h (Nat.not_lt_zero j)
  | k + 1 => by
    rcases first_or is x k with h | ⟨i, h1, h2, h3⟩
    · by_cases e : is.getD k 0 = x
      · exact .inr ⟨k, Nat.lt_succ_self k, e, h⟩
      · refine .inl fun j hj => ?_
        by_cases hjk : j < k
        · exact h j hjk
        · have : j = k := by omega
          subst this
          exact e
    · exact .inr ⟨i, by omega, h2, h3⟩
end Go.On
namespace Go.Proofs.YtpmakhfpdidleaaDoor
open Go.RowKit Go.Shelf Go.Maps
set_option linter.unusedVariables false
structure Sg where
  i : Int
  A : Option Addr
  n : Nat
  ca : Nat
  B : Option Addr
  m : Nat
  cb : Nat
abbrev Sigs := List Sg
def sigsV : Sigs → List Value
  | [] => []
  | x :: l => .int .i64 x.i :: .slice x.A x.n x.ca :: .slice x.B x.m x.cb :: sigsV l
theorem sigsV_len (l : Sigs) : (sigsV l).length = l.length * 3 := by
  induction l with
  | nil => rfl
  | cons x l ih => simp [sigsV, ih]; omega
theorem sigsV_get (l : Sigs) (k : Nat) (h : k < l.length) : (sigsV l)[k * 3]? = some (.int .i64 (l[k]).i) ∧ (sigsV l)[k * 3 + 1]? = some (.slice (l[k]).A (l[k]).n (l[k]).ca) ∧ (sigsV l)[k * 3 + 2]? = some (.slice (l[k]).B (l[k]).m (l[k]).cb) := by
  induction l generalizing k with
  | nil => cases h
  | cons x l ih =>
    cases k with
    | zero => exact ⟨rfl, rfl, rfl⟩
    | succ k =>
      rw [show (k + 1) * 3 = k * 3 + 3 from by omega]
      exact ih k (by simpa using h)
def idxs (l : Sigs) : List Int := l.map (·.i)
theorem idxs_get (l : Sigs) (k : Nat) (h : k < l.length) : (idxs l).getD k 0 = (l[k]).i := by simp [idxs, h, List.getD]
def strs (ss : List ByteArray) (k : Nat) : ByteArray := ss.getD k ⟨#[]⟩
theorem strV_get (ss : List ByteArray) (k : Nat) (h : k < ss.length) : (strV ss)[k]? = some (.string (ss.getD k ⟨#[]⟩)) := by simp [strV, h, List.getD]
/-- What the map of first places holds after k rounds. -/
structure Seen (is : List Int) (k : Nat) (D : DataW Unit) : Prop where
  no : ∀ x, (∀ j, j < k → is.getD j 0 ≠ x) → Maps.has D (.int .i64 x) = false
  yes : ∀ j, j < k → (∀ i, i < j → is.getD i 0 ≠ is.getD j 0) → Maps.has D (.int .i64 (is.getD j 0)) = true ∧ D.atKey (.int .i64 (is.getD j 0)) (.lit (.int .i64 0)) = .lit (.int .i64 (j : Int))
theorem Seen.new (is : List Int) : Seen is 0 (.map []) := ⟨fun x _ => rfl, fun j h => absurd h (Nat.not_lt_zero j)⟩
theorem Seen.stay {is : List Int} {k : Nat} {D : DataW Unit} (h : Seen is k D) {i : Nat} (hi : i < k) (e : is.getD i 0 = is.getD k 0) : Seen is (k + 1) D := by
  refine ⟨fun x hx => h.no x fun j hj => hx j (by omega), fun j hj hf => ?_⟩
  by_cases hjk : j < k
  · exact h.yes j hjk hf
  · have : j = k := by omega
    subst this
    exact absurd e (hf i hi)
theorem Seen.put {is : List Int} {k : Nat} {D : DataW Unit} (h : Seen is k D) (hD : IsMap D) (hnew : ∀ j, j < k → is.getD j 0 ≠ is.getD k 0) : Seen is (k + 1) (D.put (.int .i64 (is.getD k 0)) (.lit (.int .i64 (k : Int)))) := by
  have hk : WideAt.IsKeyLit (.int .i64 (is.getD k 0)) := trivial
  refine ⟨fun x hx => ?_, fun j hj hf => ?_⟩
  · have hne : (Lit.int .i64 x) ≠ .int .i64 (is.getD k 0) := fun e => by injection e with _ e; exact hx k (by omega) e.symm
    rw [has_put_other hne]
    exact h.no x fun j hj => hx j (by omega)
  · by_cases hjk : j < k
    · by_cases e : is.getD j 0 = is.getD k 0
      · exact absurd e (hnew j hjk)
      · have hne : (Lit.int .i64 (is.getD j 0)) ≠ .int .i64 (is.getD k 0) := fun e' => by injection e' with _ e'; exact e e'
        rw [has_put_other hne, atKey_put_other hne]
        exact h.yes j hjk hf
    · have : j = k := by omega
      subst this
      exact ⟨has_put_same hD hk _, atKey_put_same hD hk _ _⟩
theorem bytes_ext {s t : ByteArray} (h : s.toList = t.toList) : s = t := by
  rw [ByteArray.toList_eq, ByteArray.toList_eq] at h
  exact WideShapes.bytes_inj h
def reuT : Option (Nat × Nat) → Value
  | none => .tuple #[.int .i64 0, .int .i64 0, .bool false]
  | some (i, j) => .tuple #[.int .i64 (i : Int), .int .i64 (j : Int), .bool true]
theorem lawI : Keyed Tryd.prog 3 := int_keyed Tryd.underlying3
theorem zeroI (w : World) : (zeroValue 3).run Tryd.prog w = .ok (.int .i64 0) w := by kernel_rfl
end Go.Proofs.YtpmakhfpdidleaaDoor
namespace Go.Proofs.YtpmakhfpdidleaaDoor
open Go.RowKit Go.Shelf
set_option linter.unusedVariables false
def signB (seed : ByteArray) (h i : Int) : Bool := okB seed h && decide (0 ≤ i ∧ i < ((2 ^ h.toNat : Nat) : Int))
set_option maxRecDepth 100000 in
theorem sign_bad (seed : ByteArray) (h i : Int) (text : ByteArray) (hb : Hid (signB seed h i = false)) (hs : seed.size ≤ maxLen) (w : World) :
    Calls Tryd.prog 24 #[.string seed, .int .i64 h, .int .i64 i, .string text] w fun e w' => e = .returned (.tuple #[.agg #[.int .i64 0, .slice none 0 0, .slice none 0 0], .int .i64 1]) ∧ Below w.heap.size w w' := by
  by_cases hok : okB seed h = true
  · obtain ⟨h1, h2, h3⟩ := okB_out hok
    obtain ⟨m, rfl⟩ := Int.eq_ofNat_of_zero_le h2
    obtain ⟨n, hn⟩ : ∃ n, 2 ^ m = n := ⟨_, rfl⟩
    have hn2 : n ≤ 256 := by have := pow_le (m : Int) h3; rw [Int.toNat_natCast, hn] at this; exact this
    have hw : wrap64 (2 ^ m) = (n : Int) := by
      have e : (2 : Int) ^ m = (n : Int) := by rw [← hn, Int.natCast_pow]; rfl
      rw [e, IntWalk.wrap64_in _ (by omega)]
    have hi : ¬ (0 ≤ i ∧ i < (n : Int)) := by
      have := hb.out
      rw [signB, hok, Bool.true_and, Int.toNat_natCast, hn] at this
      exact of_decide_eq_false this
    have Hok := Lib.hid hok
    clear hok hn hb
    by_cases hi0 : i < 0
    · clear hi
      go_enter Tryd.func24, Tryd.ntmps24
      go_wp2_with fail
      refine (valid_any seed (m : Int) _ hs).mono ?_
      rintro e w' ⟨rfl, rfl⟩
      rw [Hok.out]
      go_wp2_with fail
      exact bodyPost_ret (v := .tuple #[.agg #[.int .i64 0, .slice none 0 0, .slice none 0 0], .int .i64 1]) (by simp [results, Tryd.results24, go_sem]) rfl ⟨rfl, (((Below.refl _ _).alloc (Nat.le_refl _) _))⟩
    · have hi1 : (n : Int) ≤ i := by omega
      clear hi
      go_enter Tryd.func24, Tryd.ntmps24
      go_wp2_with fail
      refine (valid_any seed (m : Int) _ hs).mono ?_
      rintro e w' ⟨rfl, rfl⟩
      rw [Hok.out]
      go_wp2_with fail
      exact bodyPost_ret (v := .tuple #[.agg #[.int .i64 0, .slice none 0 0, .slice none 0 0], .int .i64 1]) (by simp [results, Tryd.results24, go_sem]) rfl ⟨rfl, (((Below.refl _ _).alloc (Nat.le_refl _) _))⟩
  · have hok : okB seed h = false := by simpa using hok
    have Hok := Lib.hid hok
    clear hok hb
    go_enter Tryd.func24, Tryd.ntmps24
    go_wp2_with fail
    refine (valid_any seed h _ hs).mono ?_
    rintro e w' ⟨rfl, rfl⟩
    rw [Hok.out]
    go_wp2_with fail
    exact bodyPost_ret (v := .tuple #[.agg #[.int .i64 0, .slice none 0 0, .slice none 0 0], .int .i64 1]) (by simp [results, Tryd.results24, go_sem]) rfl ⟨rfl, (((Below.refl _ _).alloc (Nat.le_refl _) _))⟩
/-- The path of a key's leaf. -/
def keyP (seed : ByteArray) (n : Nat) (i : Int) : Forks := pathL (leavesB seed n) i
theorem keyP_map (seed : ByteArray) (n i : Nat) (hn : n ≤ 1024) (hi : i < n) : (keyP seed n (i : Int)).map (·.2) = sidesL (n : Int) (i : Int) := by
  have := path_map (leavesB seed n) i (by rw [leavesB_len]; exact hn) (by rw [leavesB_len]; exact hi)
  rw [leavesB_len] at this
  exact this
theorem sidesL_ok (n i : Nat) (hn : n ≤ 1024) (hi : i < n) : sidesL (n : Int) (i : Int) = Mk.sidesF 10 n i := by
  unfold sidesL
  rw [if_pos (sidesOk_ok n i hn hi), Int.toNat_natCast, Int.toNat_natCast]
theorem sides_pow : ∀ h : Fin 9, ∀ i : Fin 256, i.val < 2 ^ h.val → (Mk.sidesF 10 (2 ^ h.val) i.val).length = h.val := by decide +kernel
theorem keyP_len (seed : ByteArray) (h n i : Nat) (hh : h ≤ 8) (hn : 2 ^ h = n) (hi : i < n) : (keyP seed n (i : Int)).length = h := by
  have hn2 : n ≤ 256 := by rw [← hn]; exact Nat.pow_le_pow_right (n := 2) (by omega) hh
  have h1 := congrArg List.length (keyP_map seed n i (by omega) hi)
  rw [List.length_map, sidesL_ok n i (by omega) hi, ← hn] at h1
  rw [← hn, h1]
  exact sides_pow ⟨h, by omega⟩ ⟨i, by omega⟩ (by rw [hn]; exact hi)
theorem leavesB_get (seed : ByteArray) (n i : Nat) (hi : i < n) : (leavesB seed n)[i]'(by rw [leavesB_len]; exact hi) = bytesOf (On.leaf seed.data.toList (i : Nat)) := by
  have h1 := On.leaves_get seed.data.toList n i hi
  have h2 : (leavesB seed n)[i]? = some (bytesOf (On.leaf seed.data.toList (i : Nat))) := by rw [leavesB, List.getElem?_map, h1]; rfl
  exact (List.getElem?_eq_some_iff.1 h2).2
theorem signed_over (seed : ByteArray) (h n i : Nat) (hh : h ≤ 8) (hs : seed.size ≤ 64) (hn : 2 ^ h = n) (hi : i < n) (d : UInt64) :
    overB (keyD seed (h : Int)) (h : Int) d (i : Int) (On.chains seed.data.toList (i : Int) d 18) (keyP seed n (i : Int)) = true := by
  have hn2 : n ≤ 256 := by rw [← hn]; exact Nat.pow_le_pow_right (n := 2) (by omega) hh
  have hok : okB seed (h : Int) = true := decide_eq_true ⟨hs, by omega, by omega⟩
  unfold overB
  rw [decide_eq_true (⟨by omega, by omega, On.chains_len _ _ _ _⟩ : 0 ≤ (h : Int) ∧ (h : Int) ≤ 8 ∧ (On.chains seed.data.toList (i : Int) d 18).length = 18), Bool.true_and, Int.toNat_natCast, hn]
  unfold keyD
  rw [if_pos hok, Int.toNat_natCast, hn, On.climb_chains _ _ _ 18 18 (Nat.le_refl _)]
  have := paths_verify (leavesB seed n) i (by rw [leavesB_len]; omega) (by rw [leavesB_len]; exact hi)
  rw [leavesB_get seed n i hi, leavesB_len] at this
  exact this
/-- No signature is valid with a path of another form. -/
theorem over_no (root : UInt64) (h : Int) (d : UInt64) (i : Int) (c : List UInt64) (p : Forks) (hno : ¬ (0 ≤ h ∧ h ≤ 8 ∧ c.length = 18 ∧ sidesOk ((2 ^ h.toNat : Nat) : Int) i ∧ sidesL ((2 ^ h.toNat : Nat) : Int) i = p.map (·.2))) : overB root h d i c p = false := by
  unfold overB
  by_cases h1 : 0 ≤ h ∧ h ≤ 8 ∧ c.length = 18
  · rw [verify_no _ _ _ _ _ (fun k => hno ⟨h1.1, h1.2.1, h1.2.2, k.1, k.2⟩), Bool.and_false]
  · rw [decide_eq_false h1, Bool.false_and]
def usableB (seed : ByteArray) (h : Int) (ss : List ByteArray) : Bool := decide ((∀ s ∈ ss, s.size ≤ 1000) ∧ seed.size ≤ 100 ∧ (h ≤ 3 ∨ 8 < h))
end Go.Proofs.YtpmakhfpdidleaaDoor
namespace Go.Proofs.YtpmakhfpdidleaaDoor
open Go.RowKit Go.Shelf
set_option linter.unusedVariables false
set_option linter.unusedSimpArgs false
set_option maxRecDepth 100000
theorem heap_set8 (W : World) (X b : Nat) (v0 v1 v2 v3 v4 v5 v6 v7 : Value) (h : b ≠ X) : ((((((((W.setCell ⟨X, 0, none⟩ v0).setCell ⟨X, 1, none⟩ v1).setCell ⟨X, 2, none⟩ v2).setCell ⟨X, 3, none⟩ v3).setCell ⟨X, 4, none⟩ v4).setCell ⟨X, 5, none⟩ v5).setCell ⟨X, 6, none⟩ v6).setCell ⟨X, 7, none⟩ v7).heap[b]? = W.heap[b]? :=
  (Below.heap_setCell _ _ _ _ h).trans ((Below.heap_setCell _ _ _ _ h).trans ((Below.heap_setCell _ _ _ _ h).trans ((Below.heap_setCell _ _ _ _ h).trans ((Below.heap_setCell _ _ _ _ h).trans ((Below.heap_setCell _ _ _ _ h).trans ((Below.heap_setCell _ _ _ _ h).trans (Below.heap_setCell _ _ _ _ h)))))))
theorem below_set8 {a W : World} {X : Nat} (hb : Below a.heap.size a W) (h : a.heap.size ≤ X) (v0 v1 v2 v3 v4 v5 v6 v7 : Value) : Below a.heap.size a ((((((((W.setCell ⟨X, 0, none⟩ v0).setCell ⟨X, 1, none⟩ v1).setCell ⟨X, 2, none⟩ v2).setCell ⟨X, 3, none⟩ v3).setCell ⟨X, 4, none⟩ v4).setCell ⟨X, 5, none⟩ v5).setCell ⟨X, 6, none⟩ v6).setCell ⟨X, 7, none⟩ v7) :=
  (((((((hb.setCell h _).setCell h _).setCell h _).setCell h _).setCell h _).setCell h _).setCell h _).setCell h _
set_option maxHeartbeats 4000000 in
/-- Issue, for a total that is not valid. -/
theorem issue_no (seed : ByteArray) (h i : Int) (te tp : ByteArray) (tm tg tx : Int) (hv : Hid (validTB ⟨te, tp, tm, tg, tx⟩ = false)) (w : World) (he : te.size ≤ maxLen) (hp : tp.size ≤ maxLen) :
    Calls Tryd.prog 13 #[.string seed, .int .i64 h, .int .i64 i, .agg #[.string te, .string tp, .int .i64 tm, .int .i64 tg, .int .i64 tx]] w fun e w' => e = .returned (.tuple #[.agg #[.string ⟨#[]⟩, .string ⟨#[]⟩, .int .i64 0, .int .i64 0, .int .i64 0, .int .i64 0, .slice none 0 0, .slice none 0 0], .int .i64 1]) ∧ Below w.heap.size w w' := by
  go_enter Tryd.func13, Tryd.ntmps13
  go_upto_region 1 with fail
  obtain ⟨W, hW⟩ : ∃ W, W = (w.alloc (.cells #[.string te, .string tp, .int .i64 tm, .int .i64 tg, .int .i64 tx] 25)).alloc (.cells #[.string ⟨#[]⟩, .string ⟨#[]⟩, .int .i64 0, .int .i64 0, .int .i64 0, .int .i64 0, .slice none 0 0, .slice none 0 0] 38) := ⟨_, rfl⟩
  obtain ⟨X, hX⟩ : ∃ x, x = w.heap.size := ⟨_, rfl⟩
  obtain ⟨R, hR⟩ : ∃ x, x = X + 1 := ⟨_, rfl⟩
  have g : W.heap[X]? = some (.cells #[.string te, .string tp, .int .i64 tm, .int .i64 tg, .int .i64 tx] 25) := by rw [hW, hX]; exact heap_alloc2_old w _ _
  have gR : W.heap[R]? = some (.cells #[.string ⟨#[]⟩, .string ⟨#[]⟩, .int .i64 0, .int .i64 0, .int .i64 0, .int .i64 0, .slice none 0 0, .slice none 0 0] 38) := by rw [hW, hR, hX]; exact heap_alloc2_new w _ _
  have hBW : Below w.heap.size w W := by rw [hW]; exact bal (bal (Below.refl _ _) _) _
  have hRw : w.heap.size ≤ R := by omega
  have hRX : R ≠ X := by omega
  have hXR : X ≠ R := by omega
  rw [← hW, ← hX, ← hR]
  clear hW hX hR
  have x0 : W.cell? ⟨X, 0, none⟩ = some (.string te) := by rw [Lib.cell_of_heap g]; rfl
  have x1 : W.cell? ⟨X, 1, none⟩ = some (.string tp) := by rw [Lib.cell_of_heap g]; rfl
  have x2 : W.cell? ⟨X, 2, none⟩ = some (.int .i64 tm) := by rw [Lib.cell_of_heap g]; rfl
  have x3 : W.cell? ⟨X, 3, none⟩ = some (.int .i64 tg) := by rw [Lib.cell_of_heap g]; rfl
  have x4 : W.cell? ⟨X, 4, none⟩ = some (.int .i64 tx) := by rw [Lib.cell_of_heap g]; rfl
  go_wp2_with fail
  refine (valid29_any te tp tm tg tx false hv W he hp).mono ?_
  rintro e w2 ⟨rfl, hB2⟩
  have hBw2 := bgo hBW hB2
  have gR2 := (hB2.block _ (Array.getElem?_eq_some_iff.1 gR).1).trans gR
  clear x0 x1 x2 x3 x4
  have r0 : w2.cell? ⟨R, 0, none⟩ = some (.string ⟨#[]⟩) := by rw [Lib.cell_of_heap gR2]; rfl
  have r1 : w2.cell? ⟨R, 1, none⟩ = some (.string ⟨#[]⟩) := by rw [Lib.cell_of_heap gR2]; rfl
  have r2 : w2.cell? ⟨R, 2, none⟩ = some (.int .i64 0) := by rw [Lib.cell_of_heap gR2]; rfl
  have r3 : w2.cell? ⟨R, 3, none⟩ = some (.int .i64 0) := by rw [Lib.cell_of_heap gR2]; rfl
  have r4 : w2.cell? ⟨R, 4, none⟩ = some (.int .i64 0) := by rw [Lib.cell_of_heap gR2]; rfl
  have r5 : w2.cell? ⟨R, 5, none⟩ = some (.int .i64 0) := by rw [Lib.cell_of_heap gR2]; rfl
  have r6 : w2.cell? ⟨R, 6, none⟩ = some (.slice none 0 0) := by rw [Lib.cell_of_heap gR2]; rfl
  have r7 : w2.cell? ⟨R, 7, none⟩ = some (.slice none 0 0) := by rw [Lib.cell_of_heap gR2]; rfl
  have fR : ∀ j, w2.frozen? ⟨R, j, none⟩ = false := fun j => Lib.frozen_of_heap gR2 j
  go_wp2_with fail
  refine bodyPost_ret (v := .tuple #[.agg #[.string ⟨#[]⟩, .string ⟨#[]⟩, .int .i64 0, .int .i64 0, .int .i64 0, .int .i64 0, .slice none 0 0, .slice none 0 0], .int .i64 1]) (by simp [results, Tryd.results13, go_sem, r0, r1, r2, r3, r4, r5, r6, r7]) rfl ?_
  exact ⟨rfl, below_set8 hBw2 hRw _ _ _ _ _ _ _ _⟩
set_option maxHeartbeats 4000000 in
/-- Issue, where there is no key. -/
theorem issue_bad (seed : ByteArray) (h i : Int) (te tp : ByteArray) (tm tg tx : Int) (hv : Hid (validTB ⟨te, tp, tm, tg, tx⟩ = true)) (hb : Hid (signB seed h i = false)) (hs : seed.size ≤ maxLen) (w : World) (he : te.size ≤ maxLen) (hp : tp.size ≤ maxLen) (hT : CaT.Tabs w) :
    Calls Tryd.prog 13 #[.string seed, .int .i64 h, .int .i64 i, .agg #[.string te, .string tp, .int .i64 tm, .int .i64 tg, .int .i64 tx]] w fun e w' => e = .returned (.tuple #[.agg #[.string ⟨#[]⟩, .string ⟨#[]⟩, .int .i64 0, .int .i64 0, .int .i64 0, .int .i64 0, .slice none 0 0, .slice none 0 0], .int .i64 1]) ∧ Below w.heap.size w w' := by
  go_enter Tryd.func13, Tryd.ntmps13
  go_upto_region 1 with fail
  obtain ⟨W, hW⟩ : ∃ W, W = (w.alloc (.cells #[.string te, .string tp, .int .i64 tm, .int .i64 tg, .int .i64 tx] 25)).alloc (.cells #[.string ⟨#[]⟩, .string ⟨#[]⟩, .int .i64 0, .int .i64 0, .int .i64 0, .int .i64 0, .slice none 0 0, .slice none 0 0] 38) := ⟨_, rfl⟩
  obtain ⟨X, hX⟩ : ∃ x, x = w.heap.size := ⟨_, rfl⟩
  obtain ⟨R, hR⟩ : ∃ x, x = X + 1 := ⟨_, rfl⟩
  have g : W.heap[X]? = some (.cells #[.string te, .string tp, .int .i64 tm, .int .i64 tg, .int .i64 tx] 25) := by rw [hW, hX]; exact heap_alloc2_old w _ _
  have gR : W.heap[R]? = some (.cells #[.string ⟨#[]⟩, .string ⟨#[]⟩, .int .i64 0, .int .i64 0, .int .i64 0, .int .i64 0, .slice none 0 0, .slice none 0 0] 38) := by rw [hW, hR, hX]; exact heap_alloc2_new w _ _
  have hBW : Below w.heap.size w W := by rw [hW]; exact bal (bal (Below.refl _ _) _) _
  have hRw : w.heap.size ≤ R := by omega
  have hRX : R ≠ X := by omega
  have hXR : X ≠ R := by omega
  rw [← hW, ← hX, ← hR]
  clear hW hX hR
  have x0 : W.cell? ⟨X, 0, none⟩ = some (.string te) := by rw [Lib.cell_of_heap g]; rfl
  have x1 : W.cell? ⟨X, 1, none⟩ = some (.string tp) := by rw [Lib.cell_of_heap g]; rfl
  have x2 : W.cell? ⟨X, 2, none⟩ = some (.int .i64 tm) := by rw [Lib.cell_of_heap g]; rfl
  have x3 : W.cell? ⟨X, 3, none⟩ = some (.int .i64 tg) := by rw [Lib.cell_of_heap g]; rfl
  have x4 : W.cell? ⟨X, 4, none⟩ = some (.int .i64 tx) := by rw [Lib.cell_of_heap g]; rfl
  go_wp2_with fail
  refine (valid29_any te tp tm tg tx true hv W he hp).mono ?_
  rintro e w2 ⟨rfl, hB2⟩
  have hBw2 := bgo hBW hB2
  have g2 := (hB2.block _ (Array.getElem?_eq_some_iff.1 g).1).trans g
  clear x0 x1 x2 x3 x4
  have x0 : w2.cell? ⟨X, 0, none⟩ = some (.string te) := by rw [Lib.cell_of_heap g2]; rfl
  have x1 : w2.cell? ⟨X, 1, none⟩ = some (.string tp) := by rw [Lib.cell_of_heap g2]; rfl
  have x2 : w2.cell? ⟨X, 2, none⟩ = some (.int .i64 tm) := by rw [Lib.cell_of_heap g2]; rfl
  have x3 : w2.cell? ⟨X, 3, none⟩ = some (.int .i64 tg) := by rw [Lib.cell_of_heap g2]; rfl
  have x4 : w2.cell? ⟨X, 4, none⟩ = some (.int .i64 tx) := by rw [Lib.cell_of_heap g2]; rfl
  obtain ⟨t, ht⟩ : ∃ t, textT ⟨te, tp, tm, tg, tx⟩ = t := ⟨_, rfl⟩
  have Ht := Lib.hid ht
  clear ht
  go_wp2_with fail
  refine (text29_any te tp tm tg tx t Ht w2 he hp (hT.go hBw2)).mono ?_
  rintro e w3 ⟨rfl, hB3⟩
  go_wp2_with fail
  refine (sign_bad seed h i t hb hs w3).mono ?_
  rintro e w4 ⟨rfl, hB4⟩
  have hBw4 := bgo hBw2 (bgo hB3 hB4)
  have gR4 := ((bgo hB2 (bgo hB3 hB4)).block _ (Array.getElem?_eq_some_iff.1 gR).1).trans gR
  clear x0 x1 x2 x3 x4
  go_upto_region 4 with fail
  obtain ⟨W5, hW5⟩ : ∃ x, x = w4.alloc (.cells #[.int .i64 0, .slice none 0 0, .slice none 0 0] 36) := ⟨_, rfl⟩
  have hB45 : Below w4.heap.size w4 W5 := by rw [hW5]; exact bal (Below.refl _ _) _
  have gR5 := (hB45.block _ (Array.getElem?_eq_some_iff.1 gR4).1).trans gR4
  rw [← hW5]
  clear hW5
  have r0 : W5.cell? ⟨R, 0, none⟩ = some (.string ⟨#[]⟩) := by rw [Lib.cell_of_heap gR5]; rfl
  have r1 : W5.cell? ⟨R, 1, none⟩ = some (.string ⟨#[]⟩) := by rw [Lib.cell_of_heap gR5]; rfl
  have r2 : W5.cell? ⟨R, 2, none⟩ = some (.int .i64 0) := by rw [Lib.cell_of_heap gR5]; rfl
  have r3 : W5.cell? ⟨R, 3, none⟩ = some (.int .i64 0) := by rw [Lib.cell_of_heap gR5]; rfl
  have r4 : W5.cell? ⟨R, 4, none⟩ = some (.int .i64 0) := by rw [Lib.cell_of_heap gR5]; rfl
  have r5 : W5.cell? ⟨R, 5, none⟩ = some (.int .i64 0) := by rw [Lib.cell_of_heap gR5]; rfl
  have r6 : W5.cell? ⟨R, 6, none⟩ = some (.slice none 0 0) := by rw [Lib.cell_of_heap gR5]; rfl
  have r7 : W5.cell? ⟨R, 7, none⟩ = some (.slice none 0 0) := by rw [Lib.cell_of_heap gR5]; rfl
  have fR : ∀ j, W5.frozen? ⟨R, j, none⟩ = false := fun j => Lib.frozen_of_heap gR5 j
  go_wp2_with fail
  refine bodyPost_ret (v := .tuple #[.agg #[.string ⟨#[]⟩, .string ⟨#[]⟩, .int .i64 0, .int .i64 0, .int .i64 0, .int .i64 0, .slice none 0 0, .slice none 0 0], .int .i64 1]) (by simp [results, Tryd.results13, go_sem, r0, r1, r2, r3, r4, r5, r6, r7]) rfl ?_
  exact ⟨rfl, below_set8 (bgo hBw4 hB45) hRw _ _ _ _ _ _ _ _⟩
set_option maxHeartbeats 4000000 in
/-- Issue, where there is a key. -/
theorem issue_own (seed : ByteArray) (h i n : Nat) (hh : h ≤ 8) (hn : Hid (2 ^ h = n)) (hi : i < n) (hs : seed.size ≤ 64) (te tp : ByteArray) (tm tg tx : Int) (hv : Hid (validTB ⟨te, tp, tm, tg, tx⟩ = true)) (t : ByteArray) (ht : Hid (textT ⟨te, tp, tm, tg, tx⟩ = t)) (d : UInt64) (hd : Hid (Dig.sum t.data.toList = d))
    (p : Forks) (hp' : Hid (pathL (leavesB seed n) (i : Int) = p)) (w : World) (he : te.size ≤ maxLen) (hp : tp.size ≤ maxLen) (hT : CaT.Tabs w) (hO : OTabs w) :
    Calls Tryd.prog 13 #[.string seed, .int .i64 (h : Int), .int .i64 (i : Int), .agg #[.string te, .string tp, .int .i64 tm, .int .i64 tg, .int .i64 tx]] w fun e w' => ∃ A ca B cb, e = .returned (.tuple #[.agg #[.string te, .string tp, .int .i64 tm, .int .i64 tg, .int .i64 tx, .int .i64 (i : Int), .slice A 18 ca, .slice B p.length cb], .int .i64 0]) ∧
      w'.ownsRow w.heap.size 29 1 (.slice A 18 ca) 18 (u64V (On.chains seed.data.toList (i : Int) d 18)) ∧ w'.ownsRow w.heap.size 41 2 (.slice B p.length cb) p.length (forkV p) ∧ Below w.heap.size w w' := by
  go_enter Tryd.func13, Tryd.ntmps13
  go_upto_region 1 with fail
  obtain ⟨W, hW⟩ : ∃ W, W = (w.alloc (.cells #[.string te, .string tp, .int .i64 tm, .int .i64 tg, .int .i64 tx] 25)).alloc (.cells #[.string ⟨#[]⟩, .string ⟨#[]⟩, .int .i64 0, .int .i64 0, .int .i64 0, .int .i64 0, .slice none 0 0, .slice none 0 0] 38) := ⟨_, rfl⟩
  obtain ⟨X, hX⟩ : ∃ x, x = w.heap.size := ⟨_, rfl⟩
  obtain ⟨R, hR⟩ : ∃ x, x = X + 1 := ⟨_, rfl⟩
  have g : W.heap[X]? = some (.cells #[.string te, .string tp, .int .i64 tm, .int .i64 tg, .int .i64 tx] 25) := by rw [hW, hX]; exact heap_alloc2_old w _ _
  have gR : W.heap[R]? = some (.cells #[.string ⟨#[]⟩, .string ⟨#[]⟩, .int .i64 0, .int .i64 0, .int .i64 0, .int .i64 0, .slice none 0 0, .slice none 0 0] 38) := by rw [hW, hR, hX]; exact heap_alloc2_new w _ _
  have hBW : Below w.heap.size w W := by rw [hW]; exact bal (bal (Below.refl _ _) _) _
  have hRw : w.heap.size ≤ R := by omega
  have hRX : R ≠ X := by omega
  have hXR : X ≠ R := by omega
  rw [← hW, ← hX, ← hR]
  clear hW hX hR
  have x0 : W.cell? ⟨X, 0, none⟩ = some (.string te) := by rw [Lib.cell_of_heap g]; rfl
  have x1 : W.cell? ⟨X, 1, none⟩ = some (.string tp) := by rw [Lib.cell_of_heap g]; rfl
  have x2 : W.cell? ⟨X, 2, none⟩ = some (.int .i64 tm) := by rw [Lib.cell_of_heap g]; rfl
  have x3 : W.cell? ⟨X, 3, none⟩ = some (.int .i64 tg) := by rw [Lib.cell_of_heap g]; rfl
  have x4 : W.cell? ⟨X, 4, none⟩ = some (.int .i64 tx) := by rw [Lib.cell_of_heap g]; rfl
  go_wp2_with fail
  refine (valid29_any te tp tm tg tx true hv W he hp).mono ?_
  rintro e w2 ⟨rfl, hB2⟩
  have hBw2 := bgo hBW hB2
  have g2 := (hB2.block _ (Array.getElem?_eq_some_iff.1 g).1).trans g
  clear x0 x1 x2 x3 x4
  have x0 : w2.cell? ⟨X, 0, none⟩ = some (.string te) := by rw [Lib.cell_of_heap g2]; rfl
  have x1 : w2.cell? ⟨X, 1, none⟩ = some (.string tp) := by rw [Lib.cell_of_heap g2]; rfl
  have x2 : w2.cell? ⟨X, 2, none⟩ = some (.int .i64 tm) := by rw [Lib.cell_of_heap g2]; rfl
  have x3 : w2.cell? ⟨X, 3, none⟩ = some (.int .i64 tg) := by rw [Lib.cell_of_heap g2]; rfl
  have x4 : w2.cell? ⟨X, 4, none⟩ = some (.int .i64 tx) := by rw [Lib.cell_of_heap g2]; rfl
  have hts : t.size ≤ maxLen := by
    rw [← ht.out]
    unfold textT
    rw [if_pos hv.out]
    have := text_size hv.out
    unfold maxLen
    omega
  go_wp2_with fail
  refine (text29_any te tp tm tg tx t ht w2 he hp (hT.go hBw2)).mono ?_
  rintro e w3 ⟨rfl, hB3⟩
  have hBw3 := bgo hBw2 hB3
  clear x0 x1 x2 x3 x4
  go_wp2_with fail
  refine (sign_own seed h i n hh hn hi hs t d hd hts p hp' w3 (hO.go hBw3)).mono ?_
  rintro e w4 ⟨A, ca, B, cb, rfl, hA4, hB4o, hB4⟩
  have hBw4 := bgo hBw3 hB4
  go_upto_region 4 with fail
  obtain ⟨W5, hW5⟩ : ∃ x, x = w4.alloc (.cells #[.int .i64 (i : Int), .slice A 18 ca, .slice B p.length cb] 36) := ⟨_, rfl⟩
  obtain ⟨Y, hY⟩ : ∃ x, x = w4.heap.size := ⟨_, rfl⟩
  have hB45 : Below w4.heap.size w4 W5 := by rw [hW5]; exact bal (Below.refl _ _) _
  have gY : W5.heap[Y]? = some (.cells #[.int .i64 (i : Int), .slice A 18 ca, .slice B p.length cb] 36) := by rw [hW5, hY]; exact World.alloc_heap_new _ _
  rw [← hW5, ← hY]
  have hB25 := bgo hB3 (bgo hB4 hB45)
  have g5 := (hB25.block _ (Array.getElem?_eq_some_iff.1 g2).1).trans g2
  have gR5 := ((bgo hB2 hB25).block _ (Array.getElem?_eq_some_iff.1 gR).1).trans gR
  have hRl : R < W.heap.size := (Array.getElem?_eq_some_iff.1 gR).1
  have hRY : R ≠ Y := by have := hB2.size; have := hB3.size; have := hB4.size; omega
  have hYR : Y ≠ R := fun e => hRY e.symm
  have hR3 : R < w3.heap.size := by have := hB2.size; have := hB3.size; omega
  clear hW5 hY
  have x0 : W5.cell? ⟨X, 0, none⟩ = some (.string te) := by rw [Lib.cell_of_heap g5]; rfl
  have x1 : W5.cell? ⟨X, 1, none⟩ = some (.string tp) := by rw [Lib.cell_of_heap g5]; rfl
  have x2 : W5.cell? ⟨X, 2, none⟩ = some (.int .i64 tm) := by rw [Lib.cell_of_heap g5]; rfl
  have x3 : W5.cell? ⟨X, 3, none⟩ = some (.int .i64 tg) := by rw [Lib.cell_of_heap g5]; rfl
  have x4 : W5.cell? ⟨X, 4, none⟩ = some (.int .i64 tx) := by rw [Lib.cell_of_heap g5]; rfl
  have y0 : W5.cell? ⟨Y, 0, none⟩ = some (.int .i64 (i : Int)) := by rw [Lib.cell_of_heap gY]; rfl
  have y1 : W5.cell? ⟨Y, 1, none⟩ = some (.slice A 18 ca) := by rw [Lib.cell_of_heap gY]; rfl
  have y2 : W5.cell? ⟨Y, 2, none⟩ = some (.slice B p.length cb) := by rw [Lib.cell_of_heap gY]; rfl
  have r0 : W5.cell? ⟨R, 0, none⟩ = some (.string ⟨#[]⟩) := by rw [Lib.cell_of_heap gR5]; rfl
  have r1 : W5.cell? ⟨R, 1, none⟩ = some (.string ⟨#[]⟩) := by rw [Lib.cell_of_heap gR5]; rfl
  have r2 : W5.cell? ⟨R, 2, none⟩ = some (.int .i64 0) := by rw [Lib.cell_of_heap gR5]; rfl
  have r3 : W5.cell? ⟨R, 3, none⟩ = some (.int .i64 0) := by rw [Lib.cell_of_heap gR5]; rfl
  have r4 : W5.cell? ⟨R, 4, none⟩ = some (.int .i64 0) := by rw [Lib.cell_of_heap gR5]; rfl
  have r5 : W5.cell? ⟨R, 5, none⟩ = some (.int .i64 0) := by rw [Lib.cell_of_heap gR5]; rfl
  have r6 : W5.cell? ⟨R, 6, none⟩ = some (.slice none 0 0) := by rw [Lib.cell_of_heap gR5]; rfl
  have r7 : W5.cell? ⟨R, 7, none⟩ = some (.slice none 0 0) := by rw [Lib.cell_of_heap gR5]; rfl
  have fR : ∀ j, W5.frozen? ⟨R, j, none⟩ = false := fun j => Lib.frozen_of_heap gR5 j
  go_wp2_with fail
  refine bodyPost_ret (v := .tuple #[.agg #[.string te, .string tp, .int .i64 tm, .int .i64 tg, .int .i64 tx, .int .i64 (i : Int), .slice A 18 ca, .slice B p.length cb], .int .i64 0]) (by simp [results, Tryd.results13, go_sem, r0, r1, r2, r3, r4, r5, r6, r7]) rfl ?_
  have hk : ∀ b, b ≠ R → _ := fun b hb => heap_set8 W5 R b (.string te) (.string tp) (.int .i64 tm) (.int .i64 tg) (.int .i64 tx) (.int .i64 (i : Int)) (.slice A 18 ca) (.slice B p.length cb) hb
  refine ⟨A, ca, B, cb, rfl, own_keep (own_mono (own_below hA4 hB45) (by have := hBw3.size; omega)) (fun b hb => hk b ?_), own_keep (own_mono (own_below hB4o hB45) (by have := hBw3.size; omega)) (fun b hb => hk b ?_), below_set8 (bgo hBw4 hB45) hRw _ _ _ _ _ _ _ _⟩
  · have := (hA4.lt b hb).1; omega
  · have := (hB4o.lt b hb).1; omega
end Go.Proofs.YtpmakhfpdidleaaDoor
