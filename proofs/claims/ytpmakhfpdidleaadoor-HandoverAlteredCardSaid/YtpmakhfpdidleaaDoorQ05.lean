/- The walks of package merkle, fifth part: Path's errors, sides, proper. The walks of package merkle, sixth part: proper, climb, Verify. The walks of package merkle, seventh part: climb, Verify. The walks of package merkle, eighth part: zip. The walks of package merkle, ninth part: Collision. Contracts of package merkle in a form with plain results as open arguments. -/
import Derived.Test.YtpmakhfpdidleaaDoorQ04
import Derived.Lib.SliceRun
import Derived.WalkMore
namespace Go.Proofs.YtpmakhfpdidleaaDoor
open Go.RowKit Go.Shelf
set_option linter.unusedVariables false
/-- Path's error and answer. -/
def pathE (n : Nat) (i : Int) : Int := if checkE n = 0 then (if 0 ≤ i ∧ i < n then 0 else 1) else checkE n
def pathL (ss : List ByteArray) (i : Int) : List (UInt64 × Bool) := if pathE ss.length i = 0 then pathV ss i.toNat else []
set_option maxRecDepth 100000 in
theorem path_any (A : Option Addr) (c : Nat) (ss : List ByteArray) (i : Int) (w : World) (hA : Sl w w.heap.size 1 A ss.length (strV ss)) (hs : ∀ s ∈ ss, s.size ≤ 140737488355328) (hl : ss.length ≤ maxLen) :
    Calls Tryd.prog 46 #[.slice A ss.length c, .int .i64 i] w fun e w' => ∃ v, e = .returned (.tuple #[v, .int .i64 (pathE ss.length i)]) ∧ w'.ownsRow (w.heap.size + 2) 41 2 v (pathL ss i).length (forkV (pathL ss i)) ∧ Below w.heap.size w w' := by
  by_cases hok : checkE ss.length = 0
  · by_cases hi : 0 ≤ i ∧ i < ss.length
    · have hE : pathE ss.length i = 0 := by unfold pathE; rw [if_pos hok, if_pos hi]
      have hL : pathL ss i = pathV ss i.toNat := by unfold pathL; rw [if_pos hE]
      rw [hL, hE]
      have := path_ok A c ss i.toNat w hA hs hl hok (by omega)
      rw [show ((i.toNat : Nat) : Int) = i from by omega] at this
      exact this
    · have hE : pathE ss.length i = 1 := by unfold pathE; rw [if_pos hok, if_neg hi]
      have hL : pathL ss i = [] := by unfold pathL; rw [hE]; rfl
      rw [hL, hE]
      clear hE hL hA hs
      by_cases h0 : i < 0
      · clear hi
        go_enter Tryd.func46, Tryd.ntmps46
        go_wp2_with fail
        refine (check_any _ _ _ _ hl).mono ?_
        rintro e w' ⟨rfl, rfl⟩
        go_wp2_with fail
        go_ret2
        exact ⟨_, rfl, ⟨rfl, .inl ⟨rfl, rfl⟩⟩, (Below.refl _ _).alloc (Nat.le_refl _) _⟩
      · have h1 : (ss.length : Int) ≤ i := by omega
        clear hi
        go_enter Tryd.func46, Tryd.ntmps46
        go_wp2_with fail
        refine (check_any _ _ _ _ hl).mono ?_
        rintro e w' ⟨rfl, rfl⟩
        go_wp2_with fail
        go_ret2
        exact ⟨_, rfl, ⟨rfl, .inl ⟨rfl, rfl⟩⟩, (Below.refl _ _).alloc (Nat.le_refl _) _⟩
  · have hE : pathE ss.length i = checkE ss.length := by unfold pathE; rw [if_neg hok]
    have hL : pathL ss i = [] := by unfold pathL; rw [hE, if_neg hok]
    rw [hL, hE]
    have hne : (checkE ss.length != 0) = true := by simpa using hok
    have Hok := Lib.hid hok
    clear hE hL hA hs hok
    go_enter Tryd.func46, Tryd.ntmps46
    go_wp2_with fail
    refine (check_any _ _ _ _ hl).mono ?_
    rintro e w' ⟨rfl, rfl⟩
    go_wp2_with fail
    go_ret2
    exact ⟨_, rfl, ⟨rfl, .inl ⟨rfl, rfl⟩⟩, (Below.refl _ _).alloc (Nat.le_refl _) _⟩
def boolV (l : List Bool) : List Value := l.map Value.bool
def sidesOk (n i : Int) : Prop := (1 ≤ n ∧ n ≤ 1024) ∧ 0 ≤ i ∧ i < n
instance (n i : Int) : Decidable (sidesOk n i) := by unfold sidesOk; exact inferInstance
def sidesL (n i : Int) : List Bool := if sidesOk n i then Mk.sidesF 10 n.toNat i.toNat else []
theorem info_bool : (Tryd.prog.info? 4).map (fun i => (i.zero, i.size, i.bytes)) = some (some (.bool false), 1, 1) := by kernel_rfl
set_option maxRecDepth 100000 in
theorem sides_any (n i : Int) (w : World) :
    Calls Tryd.prog 88 #[.int .i64 n, .int .i64 i] w fun e w' => ∃ v, e = .returned (.tuple #[v, .bool (decide (sidesOk n i))]) ∧ w'.ownsRow w.heap.size 4 1 v (sidesL n i).length (boolV (sidesL n i)) ∧ Below w.heap.size w w' := by
  obtain ⟨i0, hj0, hz0, hz1, hz2⟩ := info_parts info_bool
  by_cases hok : sidesOk n i
  · have hL : sidesL n i = Mk.sidesF 10 n.toNat i.toNat := by unfold sidesL; rw [if_pos hok]
    rw [hL, decide_eq_true hok]
    obtain ⟨⟨h1, h2⟩, h3, h4⟩ := hok
    clear hL
    have h1' : ¬ (n < 1) := by omega
    have h2' : ¬ ((1024 : Int) < n) := by omega
    have h3' : ¬ (i < 0) := by omega
    have h4' : ¬ (n ≤ i) := by omega
    go_enter Tryd.func88, Tryd.ntmps88
    go_wp2
    go_loopw [0, 1, 6] (fun vn vi v wr => ∃ (f a b : Nat) (l : List Bool), vn = .int .i64 (a : Int) ∧ vi = .int .i64 (b : Int) ∧ 1 ≤ a ∧ a ≤ 1024 ∧ a ≤ 2 ^ f ∧ b < a ∧ l.length + f ≤ 10 ∧ l ++ Mk.sidesF f a b = Mk.sidesF 10 n.toNat i.toNat ∧ wr.ownsRow w.heap.size 4 1 v l.length (boolV l) ∧ Below w.heap.size w wr) (fun vn _ _ _ => (intOf vn).toNat)
    case atStart => exact ⟨10, n.toNat, i.toNat, [], by rw [Int.toNat_of_nonneg (by omega)], by rw [Int.toNat_of_nonneg h3], by omega, by omega, by omega, by omega, by decide, rfl, ⟨rfl, .inl ⟨rfl, rfl⟩⟩, Below.refl _ _⟩
    case round =>
      obtain ⟨f, a, b, l, rfl, rfl, ha1, ha2, haf, hba, hlf, hS, hown, hB⟩ := hrel
      have HS := Lib.hid hS
      have Hown := Lib.hid hown
      have Haf := Lib.hid haf
      clear hS hown haf h1 h2 h3 h4 h1' h2' h3' h4'
      by_cases hgt : 1 < a
      · obtain ⟨f', rfl⟩ : ∃ f', f = f' + 1 := by
          cases f with
          | zero => have := Haf.out; simp at this; omega
          | succ f' => exact ⟨f', rfl⟩
        have hS2 : l ++ (Mk.sideOf a b ++ Mk.sidesF f' ((a + 1) / 2) (b / 2)) = Mk.sidesF 10 n.toNat i.toNat := by rw [← HS.out]; conv => rhs; rw [Mk.sidesF, if_neg (by omega)]
        have hp : (a + 1) / 2 ≤ 2 ^ f' := by have := Haf.out; rw [Nat.pow_succ] at this; omega
        have hda : ((a : Int) + 1) / 2 = (((a + 1) / 2 : Nat) : Int) := by omega
        have hdb : (b : Int) / 2 = ((b / 2 : Nat) : Int) := by omega
        have Hp := Lib.hid hp
        have HS2 := Lib.hid hS2
        have Hda := Lib.hid hda
        have Hdb := Lib.hid hdb
        clear hp hS2 HS Haf hda hdb
        have hb0 : (0 : Int) ≤ (b : Int) := Int.natCast_nonneg _
        have hgd : decide ((1 : Int) < (a : Int)) = true := by simp; omega
        have both : (b % 2 = 1 ∨ b + 1 < a) ∨ ¬ (b % 2 = 1 ∨ b + 1 < a) := Classical.em _
        rcases both with hside | hside
        · have hsd : Mk.sideOf a b = [decide (b % 2 = 1)] := by unfold Mk.sideOf; rw [if_pos hside]
          have hbit : (((b : Int) % 2) == 1) = decide (b % 2 = 1) := by
            by_cases h : b % 2 = 1
            · rw [decide_eq_true h]; simp; omega
            · rw [decide_eq_false h]; simp; omega
          have hor : (decide (b % 2 = 1) = true) ∨ (decide (b % 2 = 1) = false ∧ decide ((b : Int) + 1 < (a : Int)) = true) := by
            by_cases h : b % 2 = 1
            · exact .inl (decide_eq_true h)
            · exact .inr ⟨decide_eq_false h, by simp; omega⟩
          have Hbit := Lib.hid hbit
          have Hsd := Lib.hid hsd
          obtain ⟨bt, hbt⟩ : ∃ bt, bt = decide (b % 2 = 1) := ⟨_, rfl⟩
          rw [← hbt] at hor hbit hsd
          have Hbt := Lib.hid hbt
          clear hside hbt Hbit Hsd
          have HSd := Lib.hid hsd
          clear hsd
          rcases hor with hq | ⟨hq, hq2⟩
          · subst hq
            go_wp2_with (at_builtin; refine wpList_append_own _ rfl _ _ 105 rfl w.heap.size 4 i0 (.bool false) 1 1 Tryd.underlying105 hj0 hz0 hz1 hz2 rfl (by decide) _ _ _ rfl (Hown.out.alloc _) ⟨wr.heap.size, 0, none⟩ 1 1 [.bool true] rfl rfl ?c1 ?c2 ?c3 ?c4 ?c5 ?_)
            case c1 => exact cell_one_new _ _ _
            case c2 => simp [Value.oneCell']
            case c3 => simp [maxLen]; omega
            case c4 => omega
            case c5 => have := hB.size; simp; omega
            intro v' w1 hown1 hg1 _
            have hB1 : Below w.heap.size w w1 := (hB.alloc hB.size _).grown hg1 (by have := hB.size; simp; omega) (fun k hk => (Hown.out.lt k hk).1)
            have HR := Lib.hid hown1
            clear hown1 hg1
            go_wp2
            go_roundw
            case rel => exact ⟨f', (a + 1) / 2, b / 2, l ++ [true], by rw [← Hda.out], by rw [← Hdb.out], by omega, by omega, Hp.out, by omega, by simp; omega, by rw [← HS2.out, HSd.out, List.append_assoc], by rw [List.length_append]; have := HR.out; simpa [boolV] using this, hB1⟩
            case measure => simp [intOf]; omega
          · subst hq
            go_wp2_with (at_builtin; refine wpList_append_own _ rfl _ _ 105 rfl w.heap.size 4 i0 (.bool false) 1 1 Tryd.underlying105 hj0 hz0 hz1 hz2 rfl (by decide) _ _ _ rfl (Hown.out.alloc _) ⟨wr.heap.size, 0, none⟩ 1 1 [.bool false] rfl rfl ?c1 ?c2 ?c3 ?c4 ?c5 ?_)
            case c1 => exact cell_one_new _ _ _
            case c2 => simp [Value.oneCell']
            case c3 => simp [maxLen]; omega
            case c4 => omega
            case c5 => have := hB.size; simp; omega
            intro v' w1 hown1 hg1 _
            have hB1 : Below w.heap.size w w1 := (hB.alloc hB.size _).grown hg1 (by have := hB.size; simp; omega) (fun k hk => (Hown.out.lt k hk).1)
            have HR := Lib.hid hown1
            clear hown1 hg1
            go_wp2
            go_roundw
            case rel => exact ⟨f', (a + 1) / 2, b / 2, l ++ [false], by rw [← Hda.out], by rw [← Hdb.out], by omega, by omega, Hp.out, by omega, by simp; omega, by rw [← HS2.out, HSd.out, List.append_assoc], by rw [List.length_append]; have := HR.out; simpa [boolV] using this, hB1⟩
            case measure => simp [intOf]; omega
        · have hsd : Mk.sideOf a b = [] := by unfold Mk.sideOf; rw [if_neg hside]
          have hbit : (((b : Int) % 2) == 1) = false := by simp; omega
          have hq2 : decide ((b : Int) + 1 < (a : Int)) = false := by simp; omega
          have HSd := Lib.hid hsd
          clear hside hsd
          go_wp2
          go_roundw
          case rel => exact ⟨f', (a + 1) / 2, b / 2, l, by rw [← Hda.out], by rw [← Hdb.out], by omega, by omega, Hp.out, by omega, by omega, by rw [← HS2.out, HSd.out, List.nil_append], Hown.out, hB⟩
          case measure => simp [intOf]; omega
      · have hlast : Mk.sidesF f a b = [] := by cases f with
          | zero => rfl
          | succ f' => rw [Mk.sidesF, if_pos (by omega)]
        have hS2 : l = Mk.sidesF 10 n.toNat i.toNat := by rw [← HS.out, hlast, List.append_nil]
        have HS2 := Lib.hid hS2
        have hgd : decide ((1 : Int) < (a : Int)) = false := by simp; omega
        clear hlast hS2 HS Haf
        go_wp2
        go_ret2
        rw [← HS2.out]
        exact ⟨_, rfl, Hown.out, hB⟩
  · have hL : sidesL n i = [] := by unfold sidesL; rw [if_neg hok]
    rw [hL, decide_eq_false hok]
    clear hL
    by_cases h1 : n < 1
    · clear hok
      go_enter Tryd.func88, Tryd.ntmps88
      go_wp2
      go_ret2
      exact ⟨_, rfl, ⟨rfl, .inl ⟨rfl, rfl⟩⟩, Below.refl _ _⟩
    · by_cases h2 : 1024 < n
      · clear hok
        go_enter Tryd.func88, Tryd.ntmps88
        go_wp2
        go_ret2
        exact ⟨_, rfl, ⟨rfl, .inl ⟨rfl, rfl⟩⟩, Below.refl _ _⟩
      · by_cases h3 : i < 0
        · clear hok
          go_enter Tryd.func88, Tryd.ntmps88
          go_wp2
          go_ret2
          exact ⟨_, rfl, ⟨rfl, .inl ⟨rfl, rfl⟩⟩, Below.refl _ _⟩
        · have h4 : n ≤ i := by unfold sidesOk at hok; omega
          clear hok
          go_enter Tryd.func88, Tryd.ntmps88
          go_wp2
          go_ret2
          exact ⟨_, rfl, ⟨rfl, .inl ⟨rfl, rfl⟩⟩, Below.refl _ _⟩
end Go.Proofs.YtpmakhfpdidleaaDoor
namespace Go.Proofs.YtpmakhfpdidleaaDoor
open Go.RowKit Go.Shelf
set_option linter.unusedVariables false
def properB (n i : Int) (p : List (UInt64 × Bool)) : Bool := decide (sidesOk n i ∧ sidesL n i = p.map (·.2))
theorem forkV_get1 (p : List (UInt64 × Bool)) (k : Nat) (h : k < p.length) : (forkV p)[k * 2]? = some (.int .u64 (p[k]).1.toNat) := by
  induction p generalizing k with
  | nil => cases h
  | cons a p ih =>
    cases k with
    | zero => rfl
    | succ k => rw [show (k + 1) * 2 = k * 2 + 2 from by omega]; exact ih k (by simpa using h)
theorem forkV_get2 (p : List (UInt64 × Bool)) (k : Nat) (h : k < p.length) : (forkV p)[k * 2 + 1]? = some (.bool (p[k]).2) := by
  induction p generalizing k with
  | nil => cases h
  | cons a p ih =>
    cases k with
    | zero => rfl
    | succ k => rw [show (k + 1) * 2 + 1 = k * 2 + 1 + 2 from by omega]; exact ih k (by simpa using h)
theorem sidesF_len : ∀ (f n i : Nat), (Mk.sidesF f n i).length ≤ f
  | 0, _, _ => Nat.le_refl _
  | f + 1, n, i => by
    rw [Mk.sidesF]
    split
    · exact Nat.zero_le _
    · have h1 := sidesF_len f ((n + 1) / 2) (i / 2)
      have h2 : (Mk.sideOf n i).length ≤ 1 := by unfold Mk.sideOf; split <;> simp
      rw [List.length_append]; omega
theorem sidesL_len (n i : Int) : (sidesL n i).length ≤ 10 := by
  unfold sidesL
  split
  · exact sidesF_len _ _ _
  · exact Nat.zero_le _
set_option maxRecDepth 100000 in
theorem proper_any (A : Option Addr) (c : Nat) (n i : Int) (p : List (UInt64 × Bool)) (w : World) (hA : Sl w w.heap.size 2 A p.length (forkV p)) :
    Calls Tryd.prog 72 #[.int .i64 n, .int .i64 i, .slice A p.length c] w fun e w' => e = .returned (.bool (properB n i p)) ∧ Below w.heap.size w w' := by
  have HA := Lib.hid hA
  clear hA
  go_enter Tryd.func72, Tryd.ntmps72
  go_wp2_with fail
  refine (sides_any _ _ _).mono ?_
  rintro e w1 ⟨v, rfl, hown, hB⟩
  obtain ⟨S, hS⟩ : ∃ S, S = sidesL n i := ⟨_, rfl⟩
  rw [← hS] at hown
  by_cases hok : sidesOk n i
  · rw [decide_eq_true hok]
    by_cases hlen : S.length = p.length
    · have hp10 : p.length ≤ 10 := by rw [← hlen, hS]; exact sidesL_len _ _
      obtain ⟨cap, A2, hv⟩ : ∃ cap A2, v = .slice A2 p.length cap := by
        rw [← hlen]
        rcases hown.2 with ⟨h, h0⟩ | ⟨g, cap, cur, h, _⟩
        · exact ⟨0, none, by rw [h, h0]⟩
        · exact ⟨cap, _, h⟩
      subst hv
      have hpb : properB n i p = decide (S = p.map (·.2)) := by unfold properB; rw [← hS]; simp [hok]
      have Hown := Lib.hid hown
      have Hpb := Lib.hid hpb
      have Hok := Lib.hid hok
      have Hlen := Lib.hid hlen
      have HS := Lib.hid hS
      clear hown hpb hok hlen hS
      go_wp2
      go_loopw [28] (fun v wr => ∃ k : Nat, k ≤ p.length ∧ v = .int .i64 (k : Int) ∧ Below w1.heap.size w1 wr ∧ ∀ j, j < k → S[j]? = (p.map (·.2))[j]?) (fun v _ => p.length - (intOf v).toNat)
      case atStart => exact ⟨0, Nat.zero_le _, rfl, Below.refl _ _, fun j hj => absurd hj (Nat.not_lt_zero j)⟩
      case round =>
        obtain ⟨k, hk, rfl, hB1, hall⟩ := hrel
        have hB2 := hB.trans (hB1.mono hB.size)
        have Hall := Lib.hid hall
        clear hall
        by_cases hlt : k < p.length
        · obtain ⟨b, off, rfl, hb, hcell⟩ := (HA.out).2 (by omega)
          have hc : wr.cell? ⟨b, off + k * 2 + 1, none⟩ = some (.bool (p[k]).2) := (hB2.cell (p := ⟨b, off + k * 2 + 1, none⟩) hb).trans (by rw [Nat.add_assoc]; exact hcell _ _ (forkV_get2 p k hlt))
          obtain ⟨g, cur, hA2, hc2⟩ : ∃ g cur, A2 = some ⟨g, 0, none⟩ ∧ wr.cell? ⟨g, k, none⟩ = some (.bool (S.getD k false)) := by
            have hown := own_below Hown.out hB1
            have hSl := Hlen.out
            have hcap : ∃ g cap', Value.slice A2 p.length cap = .slice (some ⟨g, 0, none⟩) p.length cap' := by
              obtain ⟨n', hn'⟩ : ∃ n', p.length = n' + 1 := ⟨p.length - 1, by omega⟩
              rw [hSl] at hown
              rw [hn'] at hown ⊢
              exact ownsRow_succ hown
            obtain ⟨g, cap', e⟩ := hcap
            injection e with e1 e2 e3
            subst e1; subst e3
            rw [← hSl] at hown
            exact ⟨g, 0, rfl, (hown.cellAt k (by omega)).trans (by simp [boolV, List.getD, show k < S.length from by omega])⟩
          subst hA2
          obtain ⟨x, hx⟩ : ∃ x, x = (p[k]).2 := ⟨_, rfl⟩
          obtain ⟨y, hy⟩ : ∃ y, y = S.getD k false := ⟨_, rfl⟩
          rw [← hx] at hc
          rw [← hy] at hc2
          have Hx := Lib.hid hx
          have Hy := Lib.hid hy
          have hlt' : (k : Int) < (p.length : Int) := by omega
          clear hcell hx hy
          cases x
          · cases y
            · go_wp2
              go_roundw
              case rel =>
                refine ⟨k + 1, by omega, by go_num, hB1, ?_⟩
                intro j hj
                by_cases hjk : j < k
                · exact Hall.out j hjk
                · have : j = k := by omega
                  subst this
                  have hlS := Hlen.out
                  have := Hx.out.symm.trans Hy.out
                  simp only [List.getElem?_map, List.getElem?_eq_getElem hlt, Option.map_some, this]
                  rw [List.getElem?_eq_getElem (by omega)]
                  simp [List.getD, show j < S.length from by omega]
              case measure => simp [intOf]; omega
            · go_wp2
              go_ret
              refine ⟨?_, hB2⟩
              have hdf : ¬ S = p.map (·.2) := by
                intro e
                have h1 := Hx.out
                have h2 := Hy.out
                rw [e] at h2
                simp [List.getD, hlt] at h2
                rw [← h1] at h2
                cases h2
              rw [Hpb.out, decide_eq_false hdf]
              rfl
          · cases y
            · go_wp2
              go_ret
              refine ⟨?_, hB2⟩
              have hdf : ¬ S = p.map (·.2) := by
                intro e
                have h1 := Hx.out
                have h2 := Hy.out
                rw [e] at h2
                simp [List.getD, hlt] at h2
                rw [← h1] at h2
                cases h2
              rw [Hpb.out, decide_eq_false hdf]
              rfl
            · go_wp2
              go_roundw
              case rel =>
                refine ⟨k + 1, by omega, by go_num, hB1, ?_⟩
                intro j hj
                by_cases hjk : j < k
                · exact Hall.out j hjk
                · have : j = k := by omega
                  subst this
                  have hlS := Hlen.out
                  have := Hx.out.symm.trans Hy.out
                  simp only [List.getElem?_map, List.getElem?_eq_getElem hlt, Option.map_some, this]
                  rw [List.getElem?_eq_getElem (by omega)]
                  simp [List.getD, show j < S.length from by omega]
              case measure => simp [intOf]; omega
        · have : k = p.length := by omega
          subst this
          have hE : S = p.map (·.2) := by
            apply List.ext_getElem?
            intro j
            by_cases hj : j < p.length
            · exact Hall.out j hj
            · rw [List.getElem?_eq_none (by have := Hlen.out; omega), List.getElem?_eq_none (by simp; omega)]
          have HE := Lib.hid hE
          clear hE
          go_wp2
          go_ret
          refine ⟨?_, hB2⟩
          rw [Hpb.out, decide_eq_true HE.out]
          rfl
    · have hpb : properB n i p = false := by
        unfold properB
        rw [decide_eq_false]
        rintro ⟨_, h⟩
        rw [← hS] at h
        exact hlen (by rw [h]; simp)
      obtain ⟨cap, A2, hv⟩ : ∃ cap A2, v = .slice A2 S.length cap := by
        rcases hown.2 with ⟨h, h0⟩ | ⟨g, cap, cur, h, _⟩
        · exact ⟨0, none, by rw [h, h0]⟩
        · exact ⟨cap, _, h⟩
      subst hv
      have hne : ((S.length : Int) != (p.length : Int)) = true := by simp; omega
      have Hpb := Lib.hid hpb
      clear hpb hown hS hlen hok
      go_wp2
      go_ret
      exact ⟨by rw [Hpb.out]; rfl, hB⟩
  · have hpb : properB n i p = false := by unfold properB; simp [hok]
    have hdf := decide_eq_false hok
    have Hpb := Lib.hid hpb
    clear hpb hown hS hok
    go_wp2
    go_ret
    exact ⟨by rw [Hpb.out]; rfl, hB⟩
end Go.Proofs.YtpmakhfpdidleaaDoor
namespace Go.Proofs.YtpmakhfpdidleaaDoor
open Go.RowKit Go.Shelf
set_option linter.unusedVariables false
def bytesOf (t : List UInt8) : ByteArray := ⟨t.toArray⟩
def climbS (s : ByteArray) (p : List (UInt64 × Bool)) : List ByteArray := bytesOf (0 :: s.data.toList) :: (Mk.climbT (Mk.leafD s.data.toList) p).map bytesOf
theorem info_string : (Tryd.prog.info? 9).map (fun i => (i.zero, i.size, i.bytes)) = some (some (.string ⟨#[]⟩), 1, 16) := by kernel_rfl
theorem climbT_len (d : UInt64) (p : List (UInt64 × Bool)) : (Mk.climbT d p).length = p.length := by
  induction p generalizing d with
  | nil => rfl
  | cons a p ih => simp [Mk.climbT, ih]
theorem climbT_snoc (d : UInt64) (p : List (UInt64 × Bool)) (x : UInt64 × Bool) : Mk.climbT d (p ++ [x]) = Mk.climbT d p ++ [Mk.upT (Mk.climbD d p) x] := by
  induction p generalizing d with
  | nil => rfl
  | cons a p ih => simp [Mk.climbT, Mk.climbD, ih]
theorem climbS_len (s : ByteArray) (p : List (UInt64 × Bool)) : (climbS s p).length = p.length + 1 := by simp [climbS, climbT_len]
theorem climbS_snoc (s : ByteArray) (p : List (UInt64 × Bool)) (x : UInt64 × Bool) : climbS s (p ++ [x]) = climbS s p ++ [bytesOf (Mk.upT (Mk.climbD (Mk.leafD s.data.toList) p) x)] := by simp [climbS, climbT_snoc]
theorem node_size (a b : UInt64) : (⟨(Mk.nodeT a b).toArray⟩ : ByteArray).size ≤ maxLen := by
  have : (⟨(Mk.nodeT a b).toArray⟩ : ByteArray).size = 17 := by
    show (Mk.nodeT a b).toArray.size = 17
    simp [Mk.nodeT, Dig.be8]
  rw [this]; unfold maxLen; omega
set_option maxRecDepth 100000 in
theorem climb_any (A : Option Addr) (c : Nat) (s : ByteArray) (p : List (UInt64 × Bool)) (w : World) (hA : Sl w w.heap.size 2 A p.length (forkV p)) (hp : p.length ≤ 1024) (hs : s.size ≤ 140737488355328) :
    Calls Tryd.prog 73 #[.string s, .slice A p.length c] w fun e w' => ∃ v, e = .returned (.tuple #[v, .int .u64 (Mk.climbD (Mk.leafD s.data.toList) p).toNat]) ∧ w'.ownsRow w.heap.size 9 1 v (climbS s p).length (strV (climbS s p)) ∧ Below w.heap.size w w' := by
  obtain ⟨i0, hj0, hz0, hz1, hz2⟩ := info_parts info_string
  have HA := Lib.hid hA
  clear hA
  go_enter Tryd.func73, Tryd.ntmps73
  go_wp2_with fail
  refine (leafText_any _ _ (by omega)).mono ?_
  rintro e w' ⟨rfl, rfl⟩
  go_wp2_with fail
  refine (sum_any _ _ (leaf_size _ hs)).mono ?_
  rintro e w1 ⟨rfl, hw1⟩
  have hB1 : Below w.heap.size w w1 := by rw [← hw1]; exact (Below.refl _ _).alloc (Nat.le_refl _) _
  have hown1 : w1.ownsRow w.heap.size 9 1 (.slice (some ⟨w.heap.size, 0, none⟩) 1 1) (climbS s []).length (strV (climbS s [])) := by
    refine ⟨rfl, .inr ⟨w.heap.size, 1, #[.string ⟨(0 :: s.data.toList).toArray⟩], rfl, Nat.le_refl _, ?_, Nat.le_refl _, by unfold maxLen; omega, rfl, rfl⟩⟩
    rw [← hw1]
    exact World.alloc_heap_new w _
  have Hs := Lib.hid hs
  have Hown1 := Lib.hid hown1
  clear hw1 hs hown1
  go_wp2
  go_loopw [6, 7, 20] (fun v d i wr => ∃ k : Nat, k ≤ p.length ∧ i = .int .i64 (k : Int) ∧ d = .int .u64 (Mk.climbD (Mk.leafD s.data.toList) (p.take k)).toNat ∧ wr.ownsRow w.heap.size 9 1 v (climbS s (p.take k)).length (strV (climbS s (p.take k))) ∧ Below w.heap.size w wr) (fun _ _ i _ => p.length - (intOf i).toNat)
  case atStart => exact ⟨0, Nat.zero_le _, rfl, rfl, Hown1.out, hB1⟩
  case round =>
    obtain ⟨k, hk, rfl, rfl, hown, hB⟩ := hrel
    have Hown := Lib.hid hown
    clear hown
    obtain ⟨d, hd⟩ : ∃ d, d = Mk.climbD (Mk.leafD s.data.toList) (p.take k) := ⟨_, rfl⟩
    rw [← hd]
    have Hd := Lib.hid hd
    clear hd
    by_cases hlt : k < p.length
    · obtain ⟨b, off, rfl, hb, hcell⟩ := (HA.out).2 (by omega)
      obtain ⟨x, hx⟩ : ∃ x, x = (p[k]).1 := ⟨_, rfl⟩
      obtain ⟨y, hy⟩ : ∃ y, y = (p[k]).2 := ⟨_, rfl⟩
      have hc1 : wr.cell? ⟨b, off + k * 2, none⟩ = some (.int .u64 x.toNat) := (hB.cell (p := ⟨b, off + k * 2, none⟩) hb).trans (by rw [hx]; exact hcell _ _ (forkV_get1 p k hlt))
      have hc2 : wr.cell? ⟨b, off + k * 2 + 1, none⟩ = some (.bool y) := (hB.cell (p := ⟨b, off + k * 2 + 1, none⟩) hb).trans (by rw [Nat.add_assoc, hy]; exact hcell _ _ (forkV_get2 p k hlt))
      have Hx := Lib.hid hx
      have Hy := Lib.hid hy
      clear hcell hx hy
      have hlt' : (k : Int) < (p.length : Int) := by omega
      go_wp2_with fail
      refine (nodeText_any _ _ _).mono ?_
      rintro e w2 ⟨rfl, hB2⟩
      have hf1 : w2.cell? ⟨wr.heap.size, 0, none⟩ = some (.int .u64 x.toNat) := (hB2.cell (p := ⟨wr.heap.size, 0, none⟩) (by simp)).trans (by simp [go_sem])
      have hf2 : w2.cell? ⟨wr.heap.size, 1, none⟩ = some (.bool y) := (hB2.cell (p := ⟨wr.heap.size, 1, none⟩) (by simp)).trans (by simp [go_sem])
      have hBa : Below wr.heap.size wr w2 := ((Below.refl _ _).alloc (Nat.le_refl _) _).trans (hB2.mono (by simp))
      have hB' : Below w.heap.size w w2 := hB.trans (hBa.mono hB.size)
      have Hown' := Lib.hid (own_below Hown.out hBa)
      cases y
      · have hB3 := hB'
        have Hown3 := Hown'
        go_wp2_with (at_builtin; refine wpList_append_own _ rfl _ _ 53 rfl w.heap.size 9 i0 (.string ⟨#[]⟩) 1 16 Tryd.underlying53 hj0 hz0 hz1 hz2 rfl (by decide) _ _ _ rfl (Hown3.out.alloc _) ⟨_, 0, none⟩ 1 1 [.string ⟨(Mk.nodeT d x).toArray⟩] rfl rfl ?c1 ?c2 ?c3 ?c4 ?c5 ?_)
        case c1 => exact cell_one_new _ _ _
        case c2 => simp [Value.oneCell']
        case c3 => simp [climbS_len, maxLen]; omega
        case c4 => simp [climbS_len]; omega
        case c5 => have := hB3.size; simp; omega
        intro v' w4 hown4 hg4 _
        have hB4 : Below w.heap.size w w4 := (hB3.alloc hB3.size _).grown hg4 (by have := hB3.size; simp; omega) (fun k hk => (Hown3.out.lt k hk).1)
        have HR := Lib.hid hown4
        clear hown4 hg4
        go_wp2_with fail
        refine (sum_any _ _ (node_size _ _)).mono ?_
        rintro e w5 ⟨rfl, rfl⟩
        go_wp2
        go_roundw
        case rel =>
          have ht : p.take (k + 1) = p.take k ++ [(x, false)] := by
            rw [List.take_succ_eq_append_getElem hlt, Hx.out, Hy.out]
          have hup : Mk.climbD (Mk.leafD s.data.toList) (p.take k ++ [(x, false)]) = Dig.sum (Mk.nodeT d x) := by
            rw [Hd.out]; simp [Mk.climbD, Mk.up, ← Mk.pair_node]
          refine ⟨k + 1, by omega, by go_num, by rw [ht, hup], ?_, hB4⟩
          rw [ht, climbS_snoc, ← Hd.out, List.length_append]
          have := HR.out
          simpa [strV, bytesOf, Mk.upT] using this
        case measure => simp [intOf]; omega
      · go_wp2_with fail
        refine (nodeText_any _ _ _).mono ?_
        rintro e w3 ⟨rfl, hBc⟩
        have hB3 : Below w.heap.size w w3 := hB'.trans (hBc.mono hB'.size)
        have Hown3 := Lib.hid (own_below Hown'.out hBc)
        go_wp2_with (at_builtin; refine wpList_append_own _ rfl _ _ 53 rfl w.heap.size 9 i0 (.string ⟨#[]⟩) 1 16 Tryd.underlying53 hj0 hz0 hz1 hz2 rfl (by decide) _ _ _ rfl (Hown3.out.alloc _) ⟨_, 0, none⟩ 1 1 [.string ⟨(Mk.nodeT x d).toArray⟩] rfl rfl ?c1 ?c2 ?c3 ?c4 ?c5 ?_)
        case c1 => exact cell_one_new _ _ _
        case c2 => simp [Value.oneCell']
        case c3 => simp [climbS_len, maxLen]; omega
        case c4 => simp [climbS_len]; omega
        case c5 => have := hB3.size; simp; omega
        intro v' w4 hown4 hg4 _
        have hB4 : Below w.heap.size w w4 := (hB3.alloc hB3.size _).grown hg4 (by have := hB3.size; simp; omega) (fun k hk => (Hown3.out.lt k hk).1)
        have HR := Lib.hid hown4
        clear hown4 hg4
        go_wp2_with fail
        refine (sum_any _ _ (node_size _ _)).mono ?_
        rintro e w5 ⟨rfl, rfl⟩
        go_wp2
        go_roundw
        case rel =>
          have ht : p.take (k + 1) = p.take k ++ [(x, true)] := by
            rw [List.take_succ_eq_append_getElem hlt, Hx.out, Hy.out]
          have hup : Mk.climbD (Mk.leafD s.data.toList) (p.take k ++ [(x, true)]) = Dig.sum (Mk.nodeT x d) := by
            rw [Hd.out]; simp [Mk.climbD, Mk.up, ← Mk.pair_node]
          refine ⟨k + 1, by omega, by go_num, by rw [ht, hup], ?_, hB4⟩
          rw [ht, climbS_snoc, ← Hd.out, List.length_append]
          have := HR.out
          simpa [strV, bytesOf, Mk.upT] using this
        case measure => simp [intOf]; omega
    · have hE : p.take k = p := List.take_of_length_le (by omega)
      rw [hE] at Hown Hd
      clear hE
      go_wp2
      go_ret2
      rw [Hd.out]
      exact ⟨_, rfl, Hown.out, hB⟩
def verifyB (root : UInt64) (n i : Int) (s : ByteArray) (p : List (UInt64 × Bool)) : Bool := properB n i p && (Mk.climbD (Mk.leafD s.data.toList) p == root)
theorem proper_len {n i : Int} {p : List (UInt64 × Bool)} (h : properB n i p = true) : p.length ≤ 10 := by
  have := (of_decide_eq_true h).2
  have h2 := sidesL_len n i
  rw [this, List.length_map] at h2
  exact h2
theorem u64_beq (a b : UInt64) : (((a.toNat : Int)) == ((b.toNat : Int))) = (a == b) := by
  by_cases h : a = b
  · subst h; simp
  · have : ¬ a.toNat = b.toNat := fun e => h (UInt64.toNat_inj.1 e)
    rw [beq_eq_false_iff_ne.2 h, beq_eq_false_iff_ne.2 (by omega)]
theorem verify_any (A : Option Addr) (c : Nat) (root : UInt64) (n i : Int) (s : ByteArray) (p : List (UInt64 × Bool)) (w : World) (hA : Sl w w.heap.size 2 A p.length (forkV p)) (hs : s.size ≤ 140737488355328) :
    Calls Tryd.prog 54 #[.int .u64 root.toNat, .int .i64 n, .int .i64 i, .string s, .slice A p.length c] w fun e w' => e = .returned (.bool (verifyB root n i s p)) ∧ Below w.heap.size w w' := by
  have HA := Lib.hid hA
  clear hA
  go_enter Tryd.func54, Tryd.ntmps54
  go_wp2_with fail
  refine (proper_any _ _ _ _ _ _ HA.out).mono ?_
  rintro e w1 ⟨rfl, hB1⟩
  by_cases hp : properB n i p = true
  · rw [hp]
    go_wp2_with fail
    refine (climb_any _ _ _ _ _ ((HA.out.below hB1).mono hB1.size) (by have := proper_len hp; omega) hs).mono ?_
    rintro e w2 ⟨v, rfl, _, hB2⟩
    go_wp2
    go_ret
    refine ⟨?_, hB1.trans (hB2.mono hB1.size)⟩
    unfold verifyB
    rw [hp, Bool.true_and, ← u64_beq]
    rfl
  · rw [Bool.not_eq_true] at hp
    rw [hp]
    go_wp2
    go_ret
    refine ⟨?_, hB1⟩
    unfold verifyB
    rw [hp]
    rfl
end Go.Proofs.YtpmakhfpdidleaaDoor
namespace Go.Proofs.YtpmakhfpdidleaaDoor
open Go.RowKit Go.Shelf
set_option linter.unusedVariables false
attribute [local go_sem] Oper.semAt_some
/-- What zip's iterator reads. -/
def ZipK (Bx By : Nat) (A A' : Option Addr) (n c c' : Nat) (ss tt : List ByteArray) (W : World) : Prop :=
  W.cell? ⟨Bx, 0, none⟩ = some (.slice A n c) ∧ W.cell? ⟨By, 0, none⟩ = some (.slice A' n c') ∧ Sl W W.heap.size 1 A n (strV ss) ∧ Sl W W.heap.size 1 A' n (strV tt)
def ZipYield (P : Program) (l m n : Nat) (ss tt : List ByteArray) (J : Nat → World → Prop) (D : World → Prop) : Prop :=
  ∀ (k : Nat) (W : World) (x y : ByteArray), J k W → k < n → ss[k]? = some x → tt[k]? = some y →
    YieldAt Fence.wide m P l #[.string x, .string y] W fun e W' => (e = .returned (.bool true) ∧ J (k + 1) W') ∨ (e = .returned (.bool false) ∧ D W')
theorem eqlS (a : Addr) (n c : Nat) (w : World) : (binOp .eql 53 (.slice (some a) n c) (.slice none 0 0)).run Tryd.prog w = .ok (.bool false) w := Lib.run_eql_slice_nil w 53 9 (some a) n c 0 0 Tryd.underlying53
attribute [local go_sem] eqlS
end Go.Proofs.YtpmakhfpdidleaaDoor
namespace Go.Proofs.YtpmakhfpdidleaaDoor
open Go.RowKit Go.Shelf
set_option linter.unusedVariables false
attribute [local go_sem] Oper.semAt_some
abbrev Forks := List (UInt64 × Bool)
def collF : List ByteArray → List ByteArray → Option (ByteArray × ByteArray)
  | x :: xs, y :: ys => if x = y then collF xs ys else if Dig.sum x.data.toList = Dig.sum y.data.toList then some (x, y) else collF xs ys
  | _, _ => none
def collR : Option (ByteArray × ByteArray) → ByteArray × ByteArray × Bool
  | none => (⟨#[]⟩, ⟨#[]⟩, false)
  | some (x, y) => (x, y, true)
def collO (n i : Int) (a : ByteArray) (p : Forks) (b : ByteArray) (q : Forks) : Option (ByteArray × ByteArray) :=
  if properB n i p = true ∧ properB n i q = true ∧ Mk.climbD (Mk.leafD a.data.toList) p = Mk.climbD (Mk.leafD b.data.toList) q then collF (climbS a p) (climbS b q) else none
def collT (o : Option (ByteArray × ByteArray)) : Value := .tuple #[.string (collR o).1, .string (collR o).2.1, .bool (collR o).2.2]
/-- The loop of Collision between two rounds, and after its break. -/
def CollJ (w : World) (B l Bx By : Nat) (r : Loop) (A A' : Option Addr) (n c c' : Nat) (ss tt : List ByteArray) (k : Nat) (W : World) : Prop :=
  W.heap[l]? = some (Rng.readyOf r) ∧ W.heap[Bx + 2]? = some (.deferred (some [])) ∧ ZipK Bx By A A' n c c' ss tt W ∧
  W.cell? ⟨B, 0, none⟩ = some (.string ⟨#[]⟩) ∧ W.cell? ⟨B + 1, 0, none⟩ = some (.string ⟨#[]⟩) ∧ W.cell? ⟨B + 2, 0, none⟩ = some (.bool false) ∧
  W.frozen? ⟨B, 0, none⟩ = false ∧ W.frozen? ⟨B + 1, 0, none⟩ = false ∧ W.frozen? ⟨B + 2, 0, none⟩ = false ∧ collF ss tt = collF (ss.drop k) (tt.drop k) ∧ Below w.heap.size w W ∧ l < W.heap.size
def CollD (w : World) (B l Bx : Nat) (r : Loop) (id : Nat) (ss tt : List ByteArray) (W : World) : Prop :=
  W.heap[l]? = some (Rng.doneOf r (.exit id)) ∧ W.heap[Bx + 2]? = some (.deferred (some [])) ∧ ∃ x y, collF ss tt = some (x, y) ∧
  W.cell? ⟨B, 0, none⟩ = some (.string x) ∧ W.cell? ⟨B + 1, 0, none⟩ = some (.string y) ∧ W.cell? ⟨B + 2, 0, none⟩ = some (.bool true) ∧ Below w.heap.size w W ∧ l < W.heap.size
theorem bytes_inj {x y : ByteArray} (h : x.data.toList = y.data.toList) : x = y := by
  obtain ⟨x⟩ := x
  obtain ⟨y⟩ := y
  exact congrArg ByteArray.mk (Array.toList_inj.1 h)
theorem sl_own {W : World} {base g n cap : Nat} {xs : List Value} (h : W.ownsRow base 9 1 (.slice (some ⟨g, 0, none⟩) n cap) n xs) : Sl W W.heap.size 1 (some ⟨g, 0, none⟩) n xs := by
  refine ⟨h.1, fun _ => ⟨g, 0, rfl, (h.lt g rfl).2, ?_⟩⟩
  intro j u hu
  obtain ⟨hj, _⟩ := List.getElem?_eq_some_iff.1 hu
  rw [Nat.zero_add]
  exact (h.cellAt j (by have := h.1; omega)).trans hu
theorem Sl.same {W W' : World} {size g n : Nat} {xs : List Value} (h : Sl W W.heap.size size (some ⟨g, 0, none⟩) n xs) (hg : W'.heap[g]? = W.heap[g]?) (hs : W.heap.size ≤ W'.heap.size) : Sl W' W'.heap.size size (some ⟨g, 0, none⟩) n xs := by
  refine ⟨h.1, fun hn => ?_⟩
  obtain ⟨b, off, e, hB, hc⟩ := h.2 hn
  injection e with e
  injection e with e1 e2 e3
  subst e1; subst e2
  exact ⟨g, 0, rfl, by omega, fun j u hu => (World.cell?_of_block hg).trans (hc j u hu)⟩
theorem collF_drop (ss tt : List ByteArray) (k : Nat) (x y : ByteArray) (hx : ss[k]? = some x) (hy : tt[k]? = some y) :
    collF (ss.drop k) (tt.drop k) = if x = y then collF (ss.drop (k + 1)) (tt.drop (k + 1)) else if Dig.sum x.data.toList = Dig.sum y.data.toList then some (x, y) else collF (ss.drop (k + 1)) (tt.drop (k + 1)) := by
  obtain ⟨h1, e1⟩ := List.getElem?_eq_some_iff.1 hx
  obtain ⟨h2, e2⟩ := List.getElem?_eq_some_iff.1 hy
  rw [List.drop_eq_getElem_cons h1, List.drop_eq_getElem_cons h2, e1, e2]
  rfl
theorem collF_end (ss tt : List ByteArray) (k : Nat) (h : ss.length ≤ k) : collF (ss.drop k) (tt.drop k) = none := by
  rw [List.drop_of_length_le h]
  cases tt.drop k <;> rfl
theorem climbT_size (d : UInt64) (p : Forks) : ∀ t ∈ Mk.climbT d p, (bytesOf t).size ≤ maxLen := by
  induction p generalizing d with
  | nil => intro t h; cases h
  | cons a p ih =>
    intro t h
    rcases List.mem_cons.1 h with rfl | h
    · unfold Mk.upT
      split <;> exact node_size _ _
    · exact ih _ t h
theorem climbS_size (s : ByteArray) (hs : s.size ≤ 140737488355328) (p : Forks) (x : ByteArray) (h : x ∈ climbS s p) : x.size ≤ maxLen := by
  rcases List.mem_cons.1 h with rfl | h
  · exact leaf_size s hs
  · obtain ⟨t, ht, rfl⟩ := List.mem_map.1 h
    exact climbT_size _ _ t ht
end Go.Proofs.YtpmakhfpdidleaaDoor
namespace Go.Proofs.YtpmakhfpdidleaaDoor
open Go.RowKit Go.Shelf
set_option linter.unusedVariables false
theorem own_slice {W : World} {base : Nat} {e : TypeId} {size n : Nat} {v : Value} {xs : List Value} (h : W.ownsRow base e size v n xs) : ∃ A cap, v = .slice A n cap ∧ Sl W W.heap.size size A n xs := by
  rcases h.2 with ⟨h1, h0⟩ | ⟨g, cap, cur, h1, _⟩
  · subst h0
    exact ⟨none, 0, h1, h.1, fun h => absurd h (Nat.lt_irrefl 0)⟩
  · subst h1
    refine ⟨_, cap, rfl, h.1, fun _ => ⟨g, 0, rfl, (h.lt g rfl).2, ?_⟩⟩
    intro j u hu
    obtain ⟨hj, _⟩ := List.getElem?_eq_some_iff.1 hu
    rw [Nat.zero_add]
    exact (h.cellAt j (by have := h.1; omega)).trans hu
theorem path_at (A : Option Addr) (c n : Nat) (ss : List ByteArray) (i : Int) (p : Forks) (e : Int) (w : World) (hn : ss.length = n) (hp : pathL ss i = p) (he : pathE n i = e) (hA : Sl w w.heap.size 1 A n (strV ss)) (hs : ∀ s ∈ ss, s.size ≤ 140737488355328) (hl : n ≤ 1100) :
    Calls Tryd.prog 46 #[.slice A n c, .int .i64 i] w fun r w' => ∃ B cap, r = .returned (.tuple #[.slice B p.length cap, .int .i64 e]) ∧ Sl w' w'.heap.size 2 B p.length (forkV p) ∧ Below w.heap.size w w' := by
  subst hn hp he
  refine (path_any A c ss i w hA hs (by unfold maxLen; omega)).mono ?_
  rintro r w' ⟨v, rfl, h, hB⟩
  obtain ⟨B, cap, rfl, hS⟩ := own_slice h
  exact ⟨B, cap, rfl, hS, hB⟩
theorem verify_at (A : Option Addr) (c m : Nat) (root : UInt64) (n i : Int) (s : ByteArray) (p : Forks) (r : Bool) (w : World) (hm : p.length = m) (hr : verifyB root n i s p = r) (hA : Sl w w.heap.size 2 A m (forkV p)) (hs : s.size ≤ 140737488355328) :
    Calls Tryd.prog 54 #[.int .u64 root.toNat, .int .i64 n, .int .i64 i, .string s, .slice A m c] w fun e w' => e = .returned (.bool r) ∧ Below w.heap.size w w' := by
  subst hm hr
  exact verify_any A c root n i s p w hA hs
theorem sl_cells {W : World} {b : Nat} {cs : Array Value} {t : TypeId} {size n : Nat} {xs : List Value} (hb : W.heap[b]? = some (.cells cs t (0, 0))) (hx : cs.toList = xs) (hn : xs.length = n * size) : Sl W W.heap.size size (some ⟨b, 0, none⟩) n xs := by
  refine ⟨hn, fun _ => ⟨b, 0, rfl, (Array.getElem?_eq_some_iff.1 hb).1, ?_⟩⟩
  intro j u hu
  rw [Nat.zero_add]
  have h1 := World.news_of_block (cs := cs) (t := t) (fr := (0, 0)) hb j u (by rw [hx]; exact hu)
  rwa [Addr.add_lit, Nat.zero_add] at h1
theorem pair_at (a b d : UInt64) (w : World) (hd : Dig.pair a b = d) : Calls Tryd.prog 86 #[.int .u64 a.toNat, .int .u64 b.toNat] w fun e w' => e = .returned (.int .u64 d.toNat) ∧ Below w.heap.size w w' := by
  subst hd; exact pair_any a b w
end Go.Proofs.YtpmakhfpdidleaaDoor
