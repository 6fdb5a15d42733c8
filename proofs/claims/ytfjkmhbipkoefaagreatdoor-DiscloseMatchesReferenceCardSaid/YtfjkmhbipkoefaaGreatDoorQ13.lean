/- The walk of onetime.Reused: the first two texts that were signed with one key. Sign where there is no key; what a signature leads to; usable and light of the law package. Decimal digits: what they denote, and back. The walks of package disclose, first part: words, Text. -/
import Derived.Test.YtfjkmhbipkoefaaGreatDoorQ12
import Derived.Maps.OwnSet
import Derived.Test.YtfjkmhbipkoefaaGreatDoorQ01
import Derived.Lib.ItoaNum
import Derived.Lib.ItoaMem
import Derived.Test.YtfjkmhbipkoefaaGreatDoorQ09
namespace Go.On
/-- The i-th and the j-th were signed with one key, and the texts differ. -/
def pairAt (is : List Int) (ts : List ByteArray) (i j : Nat) : Prop := i < j ∧ is.getD i 0 = is.getD j 0 ∧ ts.getD i ⟨#[]⟩ ≠ ts.getD j ⟨#[]⟩
/-- What Reused answers. -/
def Reu (is : List Int) (ts : List ByteArray) (n : Nat) : Option (Nat × Nat) → Prop
  | none => ∀ i j, j < n → ¬ pairAt is ts i j
  | some (i, j) => j < n ∧ pairAt is ts i j ∧ (∀ i' j', j' < j → ¬ pairAt is ts i' j') ∧ ∀ i', i' < i → ¬ pairAt is ts i' j
theorem Reu.uniq {is : List Int} {ts : List ByteArray} {n : Nat} {o o' : Option (Nat × Nat)} (h : Reu is ts n o) (h' : Reu is ts n o') : o = o' := by
  cases o with
  | none =>
    cases o' with
    | none => rfl
    | some x => exact absurd h'.2.1 (h _ _ h'.1)
  | some x =>
    cases o' with
    | none => exact absurd h.2.1 (h' _ _ h.1)
    | some y =>
      obtain ⟨i, j⟩ := x
      obtain ⟨i', j'⟩ := y
      obtain ⟨a1, a2, a3, a4⟩ := h
      obtain ⟨b1, b2, b3, b4⟩ := h'
      have e1 : ¬ j < j' := fun hl => b3 i j hl a2
      have e2 : ¬ j' < j := fun hl => a3 i' j' hl b2
      have e : j = j' := by omega
      subst e
      have e3 : ¬ i < i' := fun hl => b4 i hl a2
      have e4 : ¬ i' < i := fun hl => a4 i' hl b2
      have e : i = i' := by omega
      subst e
      rfl
theorem first_or (is : List Int) (x : Int) : ∀ k, (∀ j, j < k → is.getD j 0 ≠ x) ∨ ∃ i, i < k ∧ is.getD i 0 = x ∧ ∀ i', i' < i → is.getD i' 0 ≠ x
  | 0 => .inl fun j h => absurd h (Nat.not_lt_zero j)
  | k + 1 => by
    rcases first_or is x k with h | ⟨i, h1, h2, h3⟩
    · by_cases e : is.getD k 0 = x
      · exact .inr ⟨k, Nat.lt_succ_self k, e, h⟩
      · refine .inl fun j hj => ?_
        by_cases hjk : j < k
        · exact h j hjk
        · have : j = k := by omega
          subst this
          exact e
    · exact .inr ⟨i, by omega, h2, h3⟩
end Go.On
namespace Go.Proofs.YtfjkmhbipkoefaaGreatDoor
open Go.RowKit Go.Shelf Go.Maps
set_option linter.unusedVariables false
structure Sg where
  i : Int
  A : Option Addr
  n : Nat
  ca : Nat
  B : Option Addr
  m : Nat
  cb : Nat
abbrev Sigs := List Sg
def sigsV : Sigs → List Value
  | [] => []
  | x :: l => .int .i64 x.i :: .slice x.A x.n x.ca :: .slice x.B x.m x.cb :: sigsV l
theorem sigsV_len (l : Sigs) : (sigsV l).length = l.length * 3 := by
  induction l with
  | nil => rfl
  | cons x l ih => simp [sigsV, ih]; omega
theorem sigsV_get (l : Sigs) (k : Nat) (h : k < l.length) : (sigsV l)[k * 3]? = some (.int .i64 (l[k]).i) ∧ (sigsV l)[k * 3 + 1]? = some (.slice (l[k]).A (l[k]).n (l[k]).ca) ∧ (sigsV l)[k * 3 + 2]? = some (.slice (l[k]).B (l[k]).m (l[k]).cb) := by
  induction l generalizing k with
  | nil => cases h
  | cons x l ih =>
    cases k with
    | zero => exact ⟨rfl, rfl, rfl⟩
    | succ k =>
      rw [show (k + 1) * 3 = k * 3 + 3 from by omega]
      exact ih k (by simpa using h)
def idxs (l : Sigs) : List Int := l.map (·.i)
theorem idxs_get (l : Sigs) (k : Nat) (h : k < l.length) : (idxs l).getD k 0 = (l[k]).i := by simp [idxs, h, List.getD]
def strs (ss : List ByteArray) (k : Nat) : ByteArray := ss.getD k ⟨#[]⟩
theorem strV_get (ss : List ByteArray) (k : Nat) (h : k < ss.length) : (strV ss)[k]? = some (.string (ss.getD k ⟨#[]⟩)) := by simp [strV, h, List.getD]
/-- What the map of first places holds after k rounds. -/
structure Seen (is : List Int) (k : Nat) (D : DataW Unit) : Prop where
  no : ∀ x, (∀ j, j < k → is.getD j 0 ≠ x) → Maps.has D (.int .i64 x) = false
  yes : ∀ j, j < k → (∀ i, i < j → is.getD i 0 ≠ is.getD j 0) → Maps.has D (.int .i64 (is.getD j 0)) = true ∧ D.atKey (.int .i64 (is.getD j 0)) (.lit (.int .i64 0)) = .lit (.int .i64 (j : Int))
theorem Seen.new (is : List Int) : Seen is 0 (.map []) := ⟨fun x _ => rfl, fun j h => absurd h (Nat.not_lt_zero j)⟩
theorem Seen.stay {is : List Int} {k : Nat} {D : DataW Unit} (h : Seen is k D) {i : Nat} (hi : i < k) (e : is.getD i 0 = is.getD k 0) : Seen is (k + 1) D := by
  refine ⟨fun x hx => h.no x fun j hj => hx j (by omega), fun j hj hf => ?_⟩
  by_cases hjk : j < k
  · exact h.yes j hjk hf
  · have : j = k := by omega
    subst this
    exact absurd e (hf i hi)
theorem Seen.put {is : List Int} {k : Nat} {D : DataW Unit} (h : Seen is k D) (hD : IsMap D) (hnew : ∀ j, j < k → is.getD j 0 ≠ is.getD k 0) : Seen is (k + 1) (D.put (.int .i64 (is.getD k 0)) (.lit (.int .i64 (k : Int)))) := by
  have hk : WideAt.IsKeyLit (.int .i64 (is.getD k 0)) := trivial
  refine ⟨fun x hx => ?_, fun j hj hf => ?_⟩
  · have hne : (Lit.int .i64 x) ≠ .int .i64 (is.getD k 0) := fun e => by injection e with _ e; exact hx k (by omega) e.symm
    rw [has_put_other hne]
    exact h.no x fun j hj => hx j (by omega)
  · by_cases hjk : j < k
    · by_cases e : is.getD j 0 = is.getD k 0
      · exact absurd e (hnew j hjk)
      · have hne : (Lit.int .i64 (is.getD j 0)) ≠ .int .i64 (is.getD k 0) := fun e' => by injection e' with _ e'; exact e e'
        rw [has_put_other hne, atKey_put_other hne]
        exact h.yes j hjk hf
    · have : j = k := by omega
      subst this
      exact ⟨has_put_same hD hk _, atKey_put_same hD hk _ _⟩
theorem bytes_ext {s t : ByteArray} (h : s.toList = t.toList) : s = t := by
  rw [ByteArray.toList_eq, ByteArray.toList_eq] at h
  exact WideShapes.bytes_inj h
def reuT : Option (Nat × Nat) → Value
  | none => .tuple #[.int .i64 0, .int .i64 0, .bool false]
  | some (i, j) => .tuple #[.int .i64 (i : Int), .int .i64 (j : Int), .bool true]
theorem lawI : Keyed Tryz.prog 3 := int_keyed Tryz.underlying3
theorem zeroI (w : World) : (zeroValue 3).run Tryz.prog w = .ok (.int .i64 0) w := by kernel_rfl
end Go.Proofs.YtfjkmhbipkoefaaGreatDoor
namespace Go.Proofs.YtfjkmhbipkoefaaGreatDoor
open Go.RowKit Go.Shelf
set_option linter.unusedVariables false
def signB (seed : ByteArray) (h i : Int) : Bool := okB seed h && decide (0 ≤ i ∧ i < ((2 ^ h.toNat : Nat) : Int))
set_option maxRecDepth 100000 in
theorem sign_bad (seed : ByteArray) (h i : Int) (text : ByteArray) (hb : Hid (signB seed h i = false)) (hs : seed.size ≤ maxLen) (w : World) :
    Calls Tryz.prog 17 #[.string seed, .int .i64 h, .int .i64 i, .string text] w fun e w' => e = .returned (.tuple #[.agg #[.int .i64 0, .slice none 0 0, .slice none 0 0], .int .i64 1]) ∧ Below w.heap.size w w' := by
  by_cases hok : okB seed h = true
  · obtain ⟨h1, h2, h3⟩ := okB_out hok
    obtain ⟨m, rfl⟩ := Int.eq_ofNat_of_zero_le h2
    obtain ⟨n, hn⟩ : ∃ n, 2 ^ m = n := ⟨_, rfl⟩
    have hn2 : n ≤ 256 := by have := pow_le (m : Int) h3; rw [Int.toNat_natCast, hn] at this; exact this
    have hw : wrap64 (2 ^ m) = (n : Int) := by
      have e : (2 : Int) ^ m = (n : Int) := by rw [← hn, Int.natCast_pow]; rfl
      rw [e, IntWalk.wrap64_in _ (by omega)]
    have hi : ¬ (0 ≤ i ∧ i < (n : Int)) := by
      have := hb.out
      rw [signB, hok, Bool.true_and, Int.toNat_natCast, hn] at this
      exact of_decide_eq_false this
    have Hok := Lib.hid hok
    clear hok hn hb
    by_cases hi0 : i < 0
    · clear hi
      go_enter Tryz.func17, Tryz.ntmps17
      go_wp2_with fail
      refine (valid_any seed (m : Int) _ hs).mono ?_
      rintro e w' ⟨rfl, rfl⟩
      rw [Hok.out]
      go_wp2_with fail
      exact bodyPost_ret (v := .tuple #[.agg #[.int .i64 0, .slice none 0 0, .slice none 0 0], .int .i64 1]) (by simp [results, Tryz.results17, go_sem]) rfl ⟨rfl, (((Below.refl _ _).alloc (Nat.le_refl _) _))⟩
    · have hi1 : (n : Int) ≤ i := by omega
      clear hi
      go_enter Tryz.func17, Tryz.ntmps17
      go_wp2_with fail
      refine (valid_any seed (m : Int) _ hs).mono ?_
      rintro e w' ⟨rfl, rfl⟩
      rw [Hok.out]
      go_wp2_with fail
      exact bodyPost_ret (v := .tuple #[.agg #[.int .i64 0, .slice none 0 0, .slice none 0 0], .int .i64 1]) (by simp [results, Tryz.results17, go_sem]) rfl ⟨rfl, (((Below.refl _ _).alloc (Nat.le_refl _) _))⟩
  · have hok : okB seed h = false := by simpa using hok
    have Hok := Lib.hid hok
    clear hok hb
    go_enter Tryz.func17, Tryz.ntmps17
    go_wp2_with fail
    refine (valid_any seed h _ hs).mono ?_
    rintro e w' ⟨rfl, rfl⟩
    rw [Hok.out]
    go_wp2_with fail
    exact bodyPost_ret (v := .tuple #[.agg #[.int .i64 0, .slice none 0 0, .slice none 0 0], .int .i64 1]) (by simp [results, Tryz.results17, go_sem]) rfl ⟨rfl, (((Below.refl _ _).alloc (Nat.le_refl _) _))⟩
/-- The path of a key's leaf. -/
def keyP (seed : ByteArray) (n : Nat) (i : Int) : Forks := pathL (leavesB seed n) i
theorem keyP_map (seed : ByteArray) (n i : Nat) (hn : n ≤ 1024) (hi : i < n) : (keyP seed n (i : Int)).map (·.2) = sidesL (n : Int) (i : Int) := by
  have := path_map (leavesB seed n) i (by rw [leavesB_len]; exact hn) (by rw [leavesB_len]; exact hi)
  rw [leavesB_len] at this
  exact this
theorem sidesL_ok (n i : Nat) (hn : n ≤ 1024) (hi : i < n) : sidesL (n : Int) (i : Int) = Mk.sidesF 10 n i := by
  unfold sidesL
  rw [if_pos (sidesOk_ok n i hn hi), Int.toNat_natCast, Int.toNat_natCast]
theorem sides_pow : ∀ h : Fin 9, ∀ i : Fin 256, i.val < 2 ^ h.val → (Mk.sidesF 10 (2 ^ h.val) i.val).length = h.val := by decide +kernel
theorem keyP_len (seed : ByteArray) (h n i : Nat) (hh : h ≤ 8) (hn : 2 ^ h = n) (hi : i < n) : (keyP seed n (i : Int)).length = h := by
  have hn2 : n ≤ 256 := by rw [← hn]; exact Nat.pow_le_pow_right (n := 2) (by omega) hh
  have h1 := congrArg List.length (keyP_map seed n i (by omega) hi)
  rw [List.length_map, sidesL_ok n i (by omega) hi, ← hn] at h1
  rw [← hn, h1]
  exact sides_pow ⟨h, by omega⟩ ⟨i, by omega⟩ (by rw [hn]; exact hi)
theorem leavesB_get (seed : ByteArray) (n i : Nat) (hi : i < n) : (leavesB seed n)[i]'(by rw [leavesB_len]; exact hi) = bytesOf (On.leaf seed.data.toList (i : Nat)) := by
  have h1 := On.leaves_get seed.data.toList n i hi
  have h2 : (leavesB seed n)[i]? = some (bytesOf (On.leaf seed.data.toList (i : Nat))) := by rw [leavesB, List.getElem?_map, h1]; rfl
  exact (List.getElem?_eq_some_iff.1 h2).2
theorem signed_over (seed : ByteArray) (h n i : Nat) (hh : h ≤ 8) (hs : seed.size ≤ 64) (hn : 2 ^ h = n) (hi : i < n) (d : UInt64) :
    overB (keyD seed (h : Int)) (h : Int) d (i : Int) (On.chains seed.data.toList (i : Int) d 18) (keyP seed n (i : Int)) = true := by
  have hn2 : n ≤ 256 := by rw [← hn]; exact Nat.pow_le_pow_right (n := 2) (by omega) hh
  have hok : okB seed (h : Int) = true := decide_eq_true ⟨hs, by omega, by omega⟩
  unfold overB
  rw [decide_eq_true (⟨by omega, by omega, On.chains_len _ _ _ _⟩ : 0 ≤ (h : Int) ∧ (h : Int) ≤ 8 ∧ (On.chains seed.data.toList (i : Int) d 18).length = 18), Bool.true_and, Int.toNat_natCast, hn]
  unfold keyD
  rw [if_pos hok, Int.toNat_natCast, hn, On.climb_chains _ _ _ 18 18 (Nat.le_refl _)]
  have := paths_verify (leavesB seed n) i (by rw [leavesB_len]; omega) (by rw [leavesB_len]; exact hi)
  rw [leavesB_get seed n i hi, leavesB_len] at this
  exact this
/-- No signature is valid with a path of another form. -/
theorem over_no (root : UInt64) (h : Int) (d : UInt64) (i : Int) (c : List UInt64) (p : Forks) (hno : ¬ (0 ≤ h ∧ h ≤ 8 ∧ c.length = 18 ∧ sidesOk ((2 ^ h.toNat : Nat) : Int) i ∧ sidesL ((2 ^ h.toNat : Nat) : Int) i = p.map (·.2))) : overB root h d i c p = false := by
  unfold overB
  by_cases h1 : 0 ≤ h ∧ h ≤ 8 ∧ c.length = 18
  · rw [verify_no _ _ _ _ _ (fun k => hno ⟨h1.1, h1.2.1, h1.2.2, k.1, k.2⟩), Bool.and_false]
  · rw [decide_eq_false h1, Bool.false_and]
def usableB (seed : ByteArray) (h : Int) (ss : List ByteArray) : Bool := decide ((∀ s ∈ ss, s.size ≤ 1000) ∧ seed.size ≤ 100 ∧ (h ≤ 3 ∨ 8 < h))
end Go.Proofs.YtfjkmhbipkoefaaGreatDoor
namespace Go.Proofs.YtfjkmhbipkoefaaGreatDoor
theorem dec_mem (u : Nat) : ∀ c ∈ Lib.decDigits u, 48 ≤ c.toNat ∧ c.toNat ≤ 57 := by
  induction u using Nat.strongRecOn with
  | _ u ih =>
    intro c hc
    rw [Lib.decDigits] at hc
    split at hc
    · rename_i h
      obtain rfl := List.mem_singleton.1 hc
      rw [UInt8.toNat_ofNat']
      omega
    · rename_i h
      rcases List.mem_append.1 hc with hc | hc
      · exact ih (u / 10) (by omega) c hc
      · obtain rfl := List.mem_singleton.1 hc
        rw [UInt8.toNat_ofNat']
        omega
def decVal (l : List UInt8) : Nat := l.foldl (fun a c => 10 * a + (c.toNat - 48)) 0
theorem dec_val (u : Nat) : decVal (Lib.decDigits u) = u := by
  induction u using Nat.strongRecOn with
  | _ u ih =>
    rw [Lib.decDigits]
    split
    · rename_i h
      simp only [decVal, List.foldl_cons, List.foldl_nil, UInt8.toNat_ofNat']
      omega
    · rename_i h
      have := ih (u / 10) (by omega)
      unfold decVal at this ⊢
      rw [List.foldl_append, this]
      simp only [List.foldl_cons, List.foldl_nil, UInt8.toNat_ofNat']
      omega
theorem dec_inj {u v : Nat} (h : Lib.decDigits u = Lib.decDigits v) : u = v := by
  rw [← dec_val u, h, dec_val]
theorem itoa_mem (n : Int) : ∀ c ∈ Lib.itoa n, c.toNat = 45 ∨ (48 ≤ c.toNat ∧ c.toNat ≤ 57) := by
  intro c hc
  unfold Lib.itoa at hc
  split at hc
  · rcases List.mem_cons.1 hc with rfl | hc
    · exact .inl rfl
    · exact .inr (dec_mem _ c hc)
  · exact .inr (dec_mem _ c hc)
theorem itoa_inj {n m : Int} (h : Lib.itoa n = Lib.itoa m) : n = m := by
  unfold Lib.itoa at h
  split at h <;> split at h
  · injection h with _ h
    have := dec_inj h
    omega
  · rename_i h1 h2
    have : (45 : UInt8) ∈ Lib.decDigits m.toNat := by rw [← h]; exact List.mem_cons_self
    have := (dec_mem _ _ this).1
    exact absurd this (by decide)
  · rename_i h1 h2
    have : (45 : UInt8) ∈ Lib.decDigits n.toNat := by rw [h]; exact List.mem_cons_self
    have := (dec_mem _ _ this).1
    exact absurd this (by decide)
  · have := dec_inj h
    omega
theorem dec_len {u : Nat} (h : 10 ≤ u) : 1 < (Lib.decDigits u).length := by
  rw [Lib.decDigits, dif_neg (by omega)]
  have : (Lib.decDigits (u / 10)).length ≠ 0 := by
    intro e
    have e' := List.eq_nil_of_length_eq_zero e
    rw [Lib.decDigits] at e'
    split at e' <;> simp at e'
  simp only [List.length_append, List.length_cons, List.length_nil]
  omega
theorem dec_ne (u : Nat) : Lib.decDigits u ≠ [] := by
  intro e
  rw [Lib.decDigits] at e
  split at e <;> simp at e
theorem dec_lead (u : Nat) (h : (Lib.decDigits u).headD 0 = 48) : u = 0 := by
  induction u using Nat.strongRecOn with
  | _ u ih =>
    rw [Lib.decDigits] at h
    split at h
    · rename_i h1
      simp only [List.headD_cons] at h
      have := congrArg UInt8.toNat h
      rw [UInt8.toNat_ofNat'] at this
      have e : (48 : UInt8).toNat = 48 := rfl
      omega
    · rename_i h1
      have h2 : (Lib.decDigits (u / 10)).headD 0 = 48 := by
        cases hd : Lib.decDigits (u / 10) with
        | nil => exact absurd hd (dec_ne _)
        | cons a l => rw [hd] at h; exact h
      have := ih (u / 10) (by omega) h2
      omega
theorem decVal_snoc (l : List UInt8) (c : UInt8) : decVal (l ++ [c]) = 10 * decVal l + (c.toNat - 48) := by
  simp [decVal]
theorem decVal_app (l m : List UInt8) : decVal (l ++ m) = m.foldl (fun a c => 10 * a + (c.toNat - 48)) (decVal l) := by
  simp [decVal]
theorem decVal_pos (l : List UInt8) (hd : ∀ c ∈ l, 48 ≤ c.toNat ∧ c.toNat ≤ 57) (hn : l ≠ []) (h : l.headD 0 ≠ 48) : 1 ≤ decVal l := by
  obtain ⟨c, l', rfl⟩ := List.exists_cons_of_ne_nil hn
  have hc := hd c List.mem_cons_self
  have hne : c.toNat ≠ 48 := fun e => h (by simp only [List.headD_cons]; exact UInt8.toNat_inj.1 (by rw [e]; rfl))
  unfold decVal
  rw [List.foldl_cons]
  suffices hh : ∀ (m : List UInt8) a, 1 ≤ a → 1 ≤ m.foldl (fun a c => 10 * a + (c.toNat - 48)) a from hh l' _ (by show 1 ≤ 10 * 0 + (c.toNat - 48); omega)
  intro m
  induction m with
  | nil => intro a ha; exact ha
  | cons x m ih =>
    intro a ha
    rw [List.foldl_cons]
    exact ih _ (by show 1 ≤ 10 * a + (x.toNat - 48); omega)
/-- A numeral without needless zeros is the numeral of its value. -/
theorem dec_back (l : List UInt8) : (∀ c ∈ l, 48 ≤ c.toNat ∧ c.toNat ≤ 57) → l ≠ [] → (1 < l.length → l.headD 0 ≠ 48) → Lib.decDigits (decVal l) = l := by
  suffices h : ∀ r : List UInt8, (∀ c ∈ r.reverse, 48 ≤ c.toNat ∧ c.toNat ≤ 57) → r.reverse ≠ [] → (1 < r.reverse.length → r.reverse.headD 0 ≠ 48) → Lib.decDigits (decVal r.reverse) = r.reverse by
    have := h l.reverse
    rwa [List.reverse_reverse] at this
  intro r
  induction r with
  | nil => intro _ h; exact absurd rfl h
  | cons c r ih =>
    rw [List.reverse_cons]
    intro hd hn hl
    have hc := hd c (by simp)
    have hb : UInt8.ofNat (48 + (c.toNat - 48)) = c := by
      apply UInt8.toNat_inj.1
      rw [UInt8.toNat_ofNat']
      have := c.toNat_lt
      omega
    rw [decVal_snoc]
    by_cases hr : r.reverse = []
    · rw [hr] at hl ⊢
      have e : decVal ([] : List UInt8) = 0 := rfl
      rw [e, Lib.decDigits, dif_pos (by omega)]
      simp only [Nat.mul_zero, Nat.zero_add, List.nil_append, hb]
    · have hlen : 1 < (r.reverse ++ [c]).length := by
        have : r.reverse.length ≠ 0 := fun e => hr (List.eq_nil_of_length_eq_zero e)
        simp only [List.length_append, List.length_cons, List.length_nil]
        omega
      have hh : r.reverse.headD 0 ≠ 48 := by
        have := hl hlen
        cases hx : r.reverse with
        | nil => exact absurd hx hr
        | cons a t => rw [hx] at this; exact this
      have hp := decVal_pos r.reverse (fun x hx => hd x (by simp only [List.mem_append]; exact .inl hx)) hr hh
      have hi := ih (fun x hx => hd x (by simp only [List.mem_append]; exact .inl hx)) hr (fun _ => hh)
      rw [Lib.decDigits, dif_neg (by omega)]
      have e1 : (10 * decVal r.reverse + (c.toNat - 48)) / 10 = decVal r.reverse := by omega
      have e2 : (10 * decVal r.reverse + (c.toNat - 48)) % 10 = c.toNat - 48 := by omega
      rw [e1, e2, hi, hb]
end Go.Proofs.YtfjkmhbipkoefaaGreatDoor
namespace Go.Proofs.YtfjkmhbipkoefaaGreatDoor
open Go.RowKit Go.Shelf
set_option linter.unusedVariables false
set_option linter.unusedSimpArgs false
set_option maxRecDepth 100000
/-- Texts, with blanks between them. -/
def joinS (ss : List ByteArray) : ByteArray := ⟨(Lib.join (ss.map (·.data.toList)) [32]).toArray⟩
theorem words_at (A : Option Addr) (ca n : Nat) (ss : List ByteArray) (t : ByteArray) (hn : ss.length = n) (ht : Hid (joinS ss = t)) (h0 : 0 < n) (hc : n ≤ ca) (hl : n ≤ 1000000) (hs : t.size ≤ 140737488355328) (w : World) (hA : Sl w w.heap.size 1 A n (strV ss)) :
    Calls Tryz.prog 37 #[.slice A n ca] w fun e w' => e = .returned (.string t) ∧ Below w.heap.size w w' := by
  subst hn
  obtain ⟨b, off, rfl, hb, hcell⟩ := hA.2 h0
  have hcal := Tryz.strings_Join b off ca ss ⟨#[32]⟩ w (fun j x hx => hcell j _ (by simp [strV, hx])) hb (by omega) hc (by
    have e : (joinS ss).size ≤ 140737488355328 := by rw [ht.out]; exact hs
    have e2 : (joinS ss).size = (Lib.join (ss.map (·.data.toList)) [32]).length := by simp [joinS, ByteArray.size]
    show (Lib.join (ss.map (·.data.toList)) [32]).length ≤ _
    omega)
  have hfin : (⟨(Lib.join (ss.map (fun x => x.data.toList)) (⟨#[32]⟩ : ByteArray).data.toList).toArray⟩ : ByteArray) = t := by rw [← ht.out]; rfl
  rw [hfin] at hcal
  have HC := Lib.hid hcal
  clear hcal hfin hcell hA ht
  go_enter Tryz.func37, Tryz.ntmps37
  go_wp2_with fail
  refine HC.out.mono ?_
  rintro e w2 ⟨rfl, hB2⟩
  go_wp2
  go_ret
  exact ⟨rfl, hB2⟩
def payW : ByteArray := ⟨#[112, 97, 121, 115, 108, 105, 112]⟩
def dHead (person : ByteArray) (month : Int) (root : UInt64) : List ByteArray := [payW, person, itoaB month, textB root]
def dList (person : ByteArray) (month : Int) (root : UInt64) (xs : List Int) : List ByteArray := dHead person month root ++ xs.map itoaB
/-- The text that is signed with a payslip. -/
def dText (person : ByteArray) (month : Int) (root : UInt64) (xs : List Int) : ByteArray := joinS (dList person month root xs)
theorem dList_snoc (person : ByteArray) (month : Int) (root : UInt64) (xs : List Int) (k : Nat) (h : k < xs.length) :
    dHead person month root ++ (xs.map itoaB).take (k + 1) = (dHead person month root ++ (xs.map itoaB).take k) ++ [itoaB (xs.getD k 0)] := by
  rw [List.take_add_one, List.append_assoc]
  congr 1
  rw [List.getElem?_map, List.getElem?_eq_getElem h]
  simp [List.getD, h]
theorem joinS_size (l : List ByteArray) (B : Nat) (h : ∀ s ∈ l, s.size ≤ B) : (joinS l).size ≤ l.length * (B + 1) := by
  have e2 : (joinS l).size = (Lib.join (l.map (·.data.toList)) [32]).length := by simp [joinS, ByteArray.size]
  rw [e2]
  clear e2
  induction l with
  | nil => simp [Lib.join, List.intercalate]
  | cons a l ih =>
    have ha := h a List.mem_cons_self
    have hl : a.data.toList.length ≤ B := by simpa using ha
    have hi := ih fun s hs => h s (List.mem_cons_of_mem _ hs)
    cases l with
    | nil =>
      simp only [Lib.join, List.intercalate, List.map_cons, List.map_nil, List.intersperse, List.flatten_cons, List.flatten_nil, List.append_nil, List.length_cons, List.length_nil]
      omega
    | cons b l =>
      have e : (Lib.join ((a :: b :: l).map (·.data.toList)) [32]).length = a.data.toList.length + (1 + (Lib.join ((b :: l).map (·.data.toList)) [32]).length) := by
        simp [Lib.join, List.intercalate]
        omega
      rw [e, List.length_cons, Nat.add_mul]
      omega
theorem strV_app (l m : List ByteArray) : strV (l ++ m) = strV l ++ strV m := by simp [strV]
def DTabs (w : World) : Prop := PTabs w ∧ Tab w
theorem DTabs.go {w w' : World} (h : DTabs w) (hb : Below w.heap.size w w') : DTabs w' := ⟨h.1.go hb, h.2.below hb⟩
theorem DTabs.pt {w : World} (h : DTabs w) : PTab w := h.1.1.2
theorem DTabs.ot {w : World} (h : DTabs w) : OTabs w := ⟨h.2, h.pt⟩
set_option maxHeartbeats 2000000 in
theorem dtext_any (person : ByteArray) (month : Int) (root : UInt64) (A : Option Addr) (ca n : Nat) (xs : List Int) (t : ByteArray) (hxn : xs.length = n) (ht : Hid (dText person month root xs = t)) (hm : I64 month) (hx : ∀ x ∈ xs, I64 x) (hn : n ≤ 2000)
    (hp : person.size ≤ 10000000) (w : World) (hT : DTabs w) (hA : Sl w w.heap.size 1 A n (intV xs)) :
    Calls Tryz.prog 9 #[.string person, .int .i64 month, .int .u64 root.toNat, .slice A n ca] w fun e w' => e = .returned (.string t) ∧ Below w.heap.size w w' := by
  obtain ⟨i0, hi0, hz0, hz1, hz2⟩ := info_parts info_str
  obtain ⟨m, hme⟩ : ∃ m, itoaB month = m := ⟨_, rfl⟩
  obtain ⟨r, hre⟩ : ∃ r, textB root = r := ⟨_, rfl⟩
  have hms := itoaB_size month hm.1 hm.2
  have hrs : r.size ≤ 100 := by rw [← hre]; exact Nat.le_of_lt (by have := textB_size root; omega)
  have hts : t.size ≤ 140737488355328 := by
    rw [← ht.out]
    refine Nat.le_trans (joinS_size _ 10000000 ?_) ?_
    · intro s hs
      rcases List.mem_append.1 hs with hs | hs
      · simp only [dHead, List.mem_cons, List.not_mem_nil, or_false] at hs
        rcases hs with rfl | rfl | rfl | rfl
        · decide
        · exact hp
        · omega
        · rw [hre]; omega
      · obtain ⟨x, hx', rfl⟩ := List.mem_map.1 hs
        have := itoaB_size x (hx x hx').1 (hx x hx').2
        omega
    · have : (dList person month root xs).length = 4 + n := by simp only [dList, dHead, List.length_append, List.length_map, List.length_cons, List.length_nil, hxn]
      rw [this]
      omega
  have Hm := Lib.hid hme
  have HmI := Lib.hid hm
  have Hr := Lib.hid hre
  have HT := Lib.hid hT
  have Hx := Lib.hid hx
  have HA := Lib.hid hA
  have Ht := Lib.hid hts
  have hhd : dHead person month root = [payW, person, m, r] := by rw [← hme, ← hre]; rfl
  have Hhd := Lib.hid hhd
  clear hT hx hA hme hre hms hrs hts hm hhd
  go_enter Tryz.func9, Tryz.ntmps9
  go_wp2_with fail
  refine (itoa_any month HmI.out.1 HmI.out.2 m Hm _ HT.out.pt).mono ?_
  rintro e w1 ⟨rfl, hB1⟩
  go_wp2_with fail
  refine (text_any root _ (HT.out.go hB1).2).mono ?_
  rintro e w2 ⟨rfl, hB⟩
  rw [show (⟨(Dig.text root).toArray⟩ : ByteArray) = r from Hr.out]
  have hB2 := bgo hB1 hB
  clear hB hB1
  have hown0 : (w2.alloc (.cells #[.string ⟨#[112, 97, 121, 115, 108, 105, 112]⟩, .string person, .string m, .string r] 9)).ownsRow w.heap.size 9 1 (.slice (some ⟨w2.heap.size, 0, none⟩) 4 4) 4 (strV [payW, person, m, r]) := by
    exact ⟨rfl, .inr ⟨w2.heap.size, 4, #[.string ⟨#[112, 97, 121, 115, 108, 105, 112]⟩, .string person, .string m, .string r], rfl, hB2.size, World.alloc_heap_new _ _, by decide, by unfold maxLen; omega, rfl, rfl⟩⟩
  have hB3 := bal hB2 (.cells #[.string ⟨#[112, 97, 121, 115, 108, 105, 112]⟩, .string person, .string m, .string r] 9)
  have HO0 := Lib.hid (And.intro hown0 hB3)
  clear hown0 hB3 hB2
  go_wp2_with fail
  go_loopw [9, 20] (fun v i wr => ∃ k : Nat, k ≤ n ∧ i = .int .i64 (k : Int) ∧ wr.ownsRow w.heap.size 9 1 v (4 + k) (strV (dHead person month root ++ (xs.map itoaB).take k)) ∧ Below w.heap.size w wr) (fun _ i _ => n - (intOf i).toNat)
  case atStart => exact ⟨0, Nat.zero_le _, rfl, by rw [Hhd.out, List.take_zero, List.append_nil]; exact HO0.out.1, HO0.out.2⟩
  case round =>
    obtain ⟨k, hk, rfl, hown, hB⟩ := hrel
    have Hown := Lib.hid hown
    clear hown
    by_cases hlt : k < n
    · obtain ⟨b, off, rfl, hb, hcell⟩ := (HA.out).2 (by omega)
      have hlx : k < xs.length := by rw [hxn]; exact hlt
      have hc : wr.cell? ⟨b, off + k, none⟩ = some (.int .i64 (xs.getD k 0)) := (hB.cell (p := ⟨b, off + k, none⟩) hb).trans (hcell k _ (intV_get xs k hlx))
      have hmem : xs.getD k 0 ∈ xs := by simp [List.getD, hlx]
      have hbd := Hx.out _ hmem
      have HS := Lib.hid (dList_snoc person month root xs k hlx)
      obtain ⟨x, hxe⟩ : ∃ x, xs.getD k 0 = x := ⟨_, rfl⟩
      rw [hxe] at hc hbd HS
      obtain ⟨y, hy⟩ : ∃ y, itoaB x = y := ⟨_, rfl⟩
      rw [hy] at HS
      have Hy := Lib.hid hy
      have Hbd := Lib.hid hbd
      clear hcell hmem hxe hy hlx hbd
      go_wp2_with fail
      refine (itoa_any x Hbd.out.1 Hbd.out.2 y Hy _ (HT.out.go hB).pt).mono ?_
      rintro e w3 ⟨rfl, hB1⟩
      have hBn := bgo hB hB1
      have Hown1 := Lib.hid (own_below Hown.out hB1)
      clear hc
      go_wp2_with (at_builtin; refine app_one rfl _ _ 51 rfl 9 i0 (.string ⟨#[]⟩) 1 16 Tryz.underlying51 hi0 hz0 hz1 hz2 rfl (by decide) _ (4 + k) _ rfl Hown1.out hBn [.string y] _ _ rfl rfl (by simp [Value.oneCell']) (by unfold maxLen; omega) (by omega) ?_)
      intro v' w4 hown2 hB2 _
      have HO := Lib.hid hown2
      clear hown2 hB hB1 hBn
      go_wp2
      go_roundw
      case rel => exact ⟨k + 1, by omega, by go_num, by rw [HS.out, strV_app]; exact HO.out, hB2⟩
      case measure => simp [intOf]; omega
    · obtain rfl : k = n := by omega
      have hE : (xs.map itoaB).take k = xs.map itoaB := List.take_of_length_le (by simp [hxn])
      rw [hE] at Hown
      obtain ⟨A', cap, hv, hcap, hsl⟩ := own_slc Hown.out
      subst hv
      have hl : (dHead person month root ++ xs.map itoaB).length = 4 + k := by simp only [dHead, List.length_append, List.length_map, List.length_cons, List.length_nil, hxn]
      have Hs := Lib.hid (And.intro hl hsl)
      clear hE hl hsl
      go_wp2_with fail
      refine (words_at A' cap (4 + k) (dHead person month root ++ xs.map itoaB) t Hs.out.1 ht (by omega) hcap.1 (by omega) Ht.out _ Hs.out.2).mono ?_
      rintro e w5 ⟨rfl, hB5⟩
      go_wp2
      go_ret
      exact ⟨rfl, bgo hB hB5⟩
end Go.Proofs.YtfjkmhbipkoefaaGreatDoor
