/- The walks of package merkle, fifth part: Path's errors, sides, proper. -/
import Derived.Test.YthgkjcofmkkdcaaDoorMkW4
namespace Go.Proofs.YthgkjcofmkkdcaaDoor
open Go.RowKit Go.Shelf
set_option linter.unusedVariables false
/-- Path's error and answer. -/
def pathE (n : Nat) (i : Int) : Int := if checkE n = 0 then (if 0 ≤ i ∧ i < n then 0 else 1) else checkE n
def pathL (ss : List ByteArray) (i : Int) : List (UInt64 × Bool) := if pathE ss.length i = 0 then pathV ss i.toNat else []
set_option maxRecDepth 100000 in
theorem path_any (A : Option Addr) (c : Nat) (ss : List ByteArray) (i : Int) (w : World) (hA : Sl w w.heap.size 1 A ss.length (strV ss)) (hs : ∀ s ∈ ss, s.size ≤ 140737488355328) (hl : ss.length ≤ maxLen) :
    Calls Tryd.prog 43 #[.slice A ss.length c, .int .i64 i] w fun e w' => ∃ v, e = .returned (.tuple #[v, .int .i64 (pathE ss.length i)]) ∧ w'.ownsRow (w.heap.size + 2) 48 2 v (pathL ss i).length (forkV (pathL ss i)) ∧ Below w.heap.size w w' := by
  by_cases hok : checkE ss.length = 0
  · by_cases hi : 0 ≤ i ∧ i < ss.length
    · have hE : pathE ss.length i = 0 := by unfold pathE; rw [if_pos hok, if_pos hi]
      have hL : pathL ss i = pathV ss i.toNat := by unfold pathL; rw [if_pos hE]
      rw [hL, hE]
      have := path_ok A c ss i.toNat w hA hs hl hok (by omega)
      rw [show ((i.toNat : Nat) : Int) = i from by omega] at this
      exact this
    · have hE : pathE ss.length i = 1 := by unfold pathE; rw [if_pos hok, if_neg hi]
      have hL : pathL ss i = [] := by unfold pathL; rw [hE]; rfl
      rw [hL, hE]
      clear hE hL hA hs
      by_cases h0 : i < 0
      · clear hi
        go_enter Tryd.func43, Tryd.ntmps43
        go_wp2_with fail
        refine (check_any _ _ _ _ hl).mono ?_
        rintro e w' ⟨rfl, rfl⟩
        go_wp2_with fail
        go_ret2
        exact ⟨_, rfl, ⟨rfl, .inl ⟨rfl, rfl⟩⟩, (Below.refl _ _).alloc (Nat.le_refl _) _⟩
      · have h1 : (ss.length : Int) ≤ i := by omega
        clear hi
        go_enter Tryd.func43, Tryd.ntmps43
        go_wp2_with fail
        refine (check_any _ _ _ _ hl).mono ?_
        rintro e w' ⟨rfl, rfl⟩
        go_wp2_with fail
        go_ret2
        exact ⟨_, rfl, ⟨rfl, .inl ⟨rfl, rfl⟩⟩, (Below.refl _ _).alloc (Nat.le_refl _) _⟩
  · have hE : pathE ss.length i = checkE ss.length := by unfold pathE; rw [if_neg hok]
    have hL : pathL ss i = [] := by unfold pathL; rw [hE, if_neg hok]
    rw [hL, hE]
    have hne : (checkE ss.length != 0) = true := by simpa using hok
    have Hok := Lib.hid hok
    clear hE hL hA hs hok
    go_enter Tryd.func43, Tryd.ntmps43
    go_wp2_with fail
    refine (check_any _ _ _ _ hl).mono ?_
    rintro e w' ⟨rfl, rfl⟩
    go_wp2_with fail
    go_ret2
    exact ⟨_, rfl, ⟨rfl, .inl ⟨rfl, rfl⟩⟩, (Below.refl _ _).alloc (Nat.le_refl _) _⟩
def boolV (l : List Bool) : List Value := l.map Value.bool
def sidesOk (n i : Int) : Prop := (1 ≤ n ∧ n ≤ 1024) ∧ 0 ≤ i ∧ i < n
instance (n i : Int) : Decidable (sidesOk n i) := by unfold sidesOk; exact inferInstance
def sidesL (n i : Int) : List Bool := if sidesOk n i then Mk.sidesF 10 n.toNat i.toNat else []
theorem info_bool : (Tryd.prog.info? 4).map (fun i => (i.zero, i.size, i.bytes)) = some (some (.bool false), 1, 1) := by kernel_rfl
set_option maxRecDepth 100000 in
theorem sides_any (n i : Int) (w : World) :
    Calls Tryd.prog 74 #[.int .i64 n, .int .i64 i] w fun e w' => ∃ v, e = .returned (.tuple #[v, .bool (decide (sidesOk n i))]) ∧ w'.ownsRow w.heap.size 4 1 v (sidesL n i).length (boolV (sidesL n i)) ∧ Below w.heap.size w w' := by
  obtain ⟨i0, hj0, hz0, hz1, hz2⟩ := info_parts info_bool
  by_cases hok : sidesOk n i
  · have hL : sidesL n i = Mk.sidesF 10 n.toNat i.toNat := by unfold sidesL; rw [if_pos hok]
    rw [hL, decide_eq_true hok]
    obtain ⟨⟨h1, h2⟩, h3, h4⟩ := hok
    clear hL
    have h1' : ¬ (n < 1) := by omega
    have h2' : ¬ ((1024 : Int) < n) := by omega
    have h3' : ¬ (i < 0) := by omega
    have h4' : ¬ (n ≤ i) := by omega
    go_enter Tryd.func74, Tryd.ntmps74
    go_wp2
    go_loopw [0, 1, 6] (fun vn vi v wr => ∃ (f a b : Nat) (l : List Bool), vn = .int .i64 (a : Int) ∧ vi = .int .i64 (b : Int) ∧ 1 ≤ a ∧ a ≤ 1024 ∧ a ≤ 2 ^ f ∧ b < a ∧ l.length + f ≤ 10 ∧ l ++ Mk.sidesF f a b = Mk.sidesF 10 n.toNat i.toNat ∧ wr.ownsRow w.heap.size 4 1 v l.length (boolV l) ∧ Below w.heap.size w wr) (fun vn _ _ _ => (intOf vn).toNat)
    case atStart => exact ⟨10, n.toNat, i.toNat, [], by rw [Int.toNat_of_nonneg (by omega)], by rw [Int.toNat_of_nonneg h3], by omega, by omega, by omega, by omega, by decide, rfl, ⟨rfl, .inl ⟨rfl, rfl⟩⟩, Below.refl _ _⟩
    case round =>
      obtain ⟨f, a, b, l, rfl, rfl, ha1, ha2, haf, hba, hlf, hS, hown, hB⟩ := hrel
      have HS := Lib.hid hS
      have Hown := Lib.hid hown
      have Haf := Lib.hid haf
      clear hS hown haf h1 h2 h3 h4 h1' h2' h3' h4'
      by_cases hgt : 1 < a
      · obtain ⟨f', rfl⟩ : ∃ f', f = f' + 1 := by
          cases f with
          | zero => have := Haf.out; simp at this; omega
          | succ f' => exact ⟨f', rfl⟩
        have hS2 : l ++ (Mk.sideOf a b ++ Mk.sidesF f' ((a + 1) / 2) (b / 2)) = Mk.sidesF 10 n.toNat i.toNat := by rw [← HS.out]; conv => rhs; rw [Mk.sidesF, if_neg (by omega)]
        have hp : (a + 1) / 2 ≤ 2 ^ f' := by have := Haf.out; rw [Nat.pow_succ] at this; omega
        have hda : ((a : Int) + 1) / 2 = (((a + 1) / 2 : Nat) : Int) := by omega
        have hdb : (b : Int) / 2 = ((b / 2 : Nat) : Int) := by omega
        have Hp := Lib.hid hp
        have HS2 := Lib.hid hS2
        have Hda := Lib.hid hda
        have Hdb := Lib.hid hdb
        clear hp hS2 HS Haf hda hdb
        have hb0 : (0 : Int) ≤ (b : Int) := Int.natCast_nonneg _
        have hgd : decide ((1 : Int) < (a : Int)) = true := by simp; omega
        have both : (b % 2 = 1 ∨ b + 1 < a) ∨ ¬ (b % 2 = 1 ∨ b + 1 < a) := Classical.em _
        rcases both with hside | hside
        · have hsd : Mk.sideOf a b = [decide (b % 2 = 1)] := by unfold Mk.sideOf; rw [if_pos hside]
          have hbit : (((b : Int) % 2) == 1) = decide (b % 2 = 1) := by
            by_cases h : b % 2 = 1
            · rw [decide_eq_true h]; simp; omega
            · rw [decide_eq_false h]; simp; omega
          have hor : (decide (b % 2 = 1) = true) ∨ (decide (b % 2 = 1) = false ∧ decide ((b : Int) + 1 < (a : Int)) = true) := by
            by_cases h : b % 2 = 1
            · exact .inl (decide_eq_true h)
            · exact .inr ⟨decide_eq_false h, by simp; omega⟩
          have Hbit := Lib.hid hbit
          have Hsd := Lib.hid hsd
          obtain ⟨bt, hbt⟩ : ∃ bt, bt = decide (b % 2 = 1) := ⟨_, rfl⟩
          rw [← hbt] at hor hbit hsd
          have Hbt := Lib.hid hbt
          clear hside hbt Hbit Hsd
          have HSd := Lib.hid hsd
          clear hsd
          rcases hor with hq | ⟨hq, hq2⟩
          · subst hq
            go_wp2_with (at_builtin; refine wpList_append_own _ rfl _ _ 109 rfl w.heap.size 4 i0 (.bool false) 1 1 Tryd.underlying109 hj0 hz0 hz1 hz2 rfl (by decide) _ _ _ rfl (Hown.out.alloc _) ⟨wr.heap.size, 0, none⟩ 1 1 [.bool true] rfl rfl ?c1 ?c2 ?c3 ?c4 ?c5 ?_)
            case c1 => exact cell_one_new _ _ _
            case c2 => simp [Value.oneCell']
            case c3 => simp [maxLen]; omega
            case c4 => omega
            case c5 => have := hB.size; simp; omega
            intro v' w1 hown1 hg1 _
            have hB1 : Below w.heap.size w w1 := (hB.alloc hB.size _).grown hg1 (by have := hB.size; simp; omega) (fun k hk => (Hown.out.lt k hk).1)
            have HR := Lib.hid hown1
            clear hown1 hg1
            go_wp2
            go_roundw
            case rel => exact ⟨f', (a + 1) / 2, b / 2, l ++ [true], by rw [← Hda.out], by rw [← Hdb.out], by omega, by omega, Hp.out, by omega, by simp; omega, by rw [← HS2.out, HSd.out, List.append_assoc], by rw [List.length_append]; have := HR.out; simpa [boolV] using this, hB1⟩
            case measure => simp [intOf]; omega
          · subst hq
            go_wp2_with (at_builtin; refine wpList_append_own _ rfl _ _ 109 rfl w.heap.size 4 i0 (.bool false) 1 1 Tryd.underlying109 hj0 hz0 hz1 hz2 rfl (by decide) _ _ _ rfl (Hown.out.alloc _) ⟨wr.heap.size, 0, none⟩ 1 1 [.bool false] rfl rfl ?c1 ?c2 ?c3 ?c4 ?c5 ?_)
            case c1 => exact cell_one_new _ _ _
            case c2 => simp [Value.oneCell']
            case c3 => simp [maxLen]; omega
            case c4 => omega
            case c5 => have := hB.size; simp; omega
            intro v' w1 hown1 hg1 _
            have hB1 : Below w.heap.size w w1 := (hB.alloc hB.size _).grown hg1 (by have := hB.size; simp; omega) (fun k hk => (Hown.out.lt k hk).1)
            have HR := Lib.hid hown1
            clear hown1 hg1
            go_wp2
            go_roundw
            case rel => exact ⟨f', (a + 1) / 2, b / 2, l ++ [false], by rw [← Hda.out], by rw [← Hdb.out], by omega, by omega, Hp.out, by omega, by simp; omega, by rw [← HS2.out, HSd.out, List.append_assoc], by rw [List.length_append]; have := HR.out; simpa [boolV] using this, hB1⟩
            case measure => simp [intOf]; omega
        · have hsd : Mk.sideOf a b = [] := by unfold Mk.sideOf; rw [if_neg hside]
          have hbit : (((b : Int) % 2) == 1) = false := by simp; omega
          have hq2 : decide ((b : Int) + 1 < (a : Int)) = false := by simp; omega
          have HSd := Lib.hid hsd
          clear hside hsd
          go_wp2
          go_roundw
          case rel => exact ⟨f', (a + 1) / 2, b / 2, l, by rw [← Hda.out], by rw [← Hdb.out], by omega, by omega, Hp.out, by omega, by omega, by rw [← HS2.out, HSd.out, List.nil_append], Hown.out, hB⟩
          case measure => simp [intOf]; omega
      · have hlast : Mk.sidesF f a b = [] := by cases f with
          | zero => rfl
          | succ f' => rw [Mk.sidesF, if_pos (by omega)]
        have hS2 : l = Mk.sidesF 10 n.toNat i.toNat := by rw [← HS.out, hlast, List.append_nil]
        have HS2 := Lib.hid hS2
        have hgd : decide ((1 : Int) < (a : Int)) = false := by simp; omega
        clear hlast hS2 HS Haf
        go_wp2
        go_ret2
        rw [← HS2.out]
        exact ⟨_, rfl, Hown.out, hB⟩
  · have hL : sidesL n i = [] := by unfold sidesL; rw [if_neg hok]
    rw [hL, decide_eq_false hok]
    clear hL
    by_cases h1 : n < 1
    · clear hok
      go_enter Tryd.func74, Tryd.ntmps74
      go_wp2
      go_ret2
      exact ⟨_, rfl, ⟨rfl, .inl ⟨rfl, rfl⟩⟩, Below.refl _ _⟩
    · by_cases h2 : 1024 < n
      · clear hok
        go_enter Tryd.func74, Tryd.ntmps74
        go_wp2
        go_ret2
        exact ⟨_, rfl, ⟨rfl, .inl ⟨rfl, rfl⟩⟩, Below.refl _ _⟩
      · by_cases h3 : i < 0
        · clear hok
          go_enter Tryd.func74, Tryd.ntmps74
          go_wp2
          go_ret2
          exact ⟨_, rfl, ⟨rfl, .inl ⟨rfl, rfl⟩⟩, Below.refl _ _⟩
        · have h4 : n ≤ i := by unfold sidesOk at hok; omega
          clear hok
          go_enter Tryd.func74, Tryd.ntmps74
          go_wp2
          go_ret2
          exact ⟨_, rfl, ⟨rfl, .inl ⟨rfl, rfl⟩⟩, Below.refl _ _⟩
end Go.Proofs.YthgkjcofmkkdcaaDoor
