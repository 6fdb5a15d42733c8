/- The walks of package payslip, first part: isName, isIndex, join, Leaf, inRange. -/
import Derived.Test.YtgkilaafeconlaaDoorTabs
import Derived.Test.YtgkilaafeconlaaDoorMkOpen
import Derived.Test.YtgkilaafeconlaaDoorApp2
import Derived.Deep.DeepFit
namespace Go.Proofs.YtgkilaafeconlaaDoor
open Go.RowKit Go.Shelf
set_option linter.unusedVariables false
set_option linter.unusedSimpArgs false
def okC (c : UInt8) : Bool := decide ((97 ≤ c.toNat ∧ c.toNat ≤ 122) ∨ (48 ≤ c.toNat ∧ c.toNat ≤ 57) ∨ c.toNat = 95)
/-- Whether a text is a name. -/
def isNameB (s : ByteArray) : Bool := decide (0 < s.size ∧ s.size ≤ 16 ∧ 97 ≤ (s.data.toList.headD 0).toNat ∧ (s.data.toList.headD 0).toNat ≤ 122 ∧ ∀ c ∈ s.data.toList, okC c = true)
theorem name_head (s : ByteArray) (h : 0 < s.size) : s.data.toList.headD 0 = s[0] := by
  obtain ⟨⟨l⟩⟩ := s
  cases l with
  | nil => exact absurd h (Nat.lt_irrefl 0)
  | cons a l => rfl
theorem name_get (s : ByteArray) (k : Nat) (h : k < s.size) : s.data.toList[k]'(by simpa using h) = s[k] := rfl
theorem name_no {s : ByteArray} {k : Nat} (h : k < s.size) (hc : okC s[k] = false) : isNameB s = false := by
  refine decide_eq_false ?_
  intro hh
  have := hh.2.2.2.2 _ (List.getElem_mem (show k < s.data.toList.length by simpa using h))
  rw [name_get s k h, hc] at this
  cases this
theorem name_yes {s : ByteArray} (h0 : 0 < s.size) (h16 : s.size ≤ 16) (h1 : 97 ≤ s[0].toNat) (h2 : s[0].toNat ≤ 122) (hc : ∀ k (h : k < s.size), okC s[k] = true) : isNameB s = true := by
  refine decide_eq_true ⟨h0, h16, by rw [name_head s h0]; exact h1, by rw [name_head s h0]; exact h2, ?_⟩
  intro c hm
  obtain ⟨k, hk, rfl⟩ := List.getElem_of_mem hm
  rw [name_get s k (by simpa using hk)]
  exact hc k (by simpa using hk)
theorem bytes_extL {s t : ByteArray} (h : s.toList = t.toList) : s = t := by
  rw [ByteArray.toList_eq, ByteArray.toList_eq] at h
  exact WideShapes.bytes_inj h
theorem ne_empty {s : ByteArray} (h : 0 < s.size) : s.toList.isEmpty = false ∧ ¬ s.toList = [] := by
  have : ¬ s.toList = [] := by
    intro e
    have := bytes_extL (s := s) (t := ⟨#[]⟩) (by rw [e, ByteArray.toList_eq])
    rw [this] at h
    exact absurd h (Nat.lt_irrefl 0)
  exact ⟨by cases hh : s.toList with
    | nil => exact absurd hh this
    | cons a l => rfl, this⟩
theorem is_empty {s : ByteArray} (h : ¬ 0 < s.size) : s = ⟨#[]⟩ := by
  obtain ⟨⟨l⟩⟩ := s
  cases l with
  | nil => rfl
  | cons a l => exact absurd (Nat.succ_pos _) h
set_option maxRecDepth 100000 in
set_option maxHeartbeats 1000000 in
theorem isName_any (s : ByteArray) (w : World) (hs : s.size ≤ maxLen) : Calls Tryd.prog 42 #[.string s] w fun e w' => e = .returned (.bool (isNameB s)) ∧ w = w' := by
  unfold maxLen at hs
  by_cases h0 : 0 < s.size
  · obtain ⟨he, he'⟩ := ne_empty h0
    by_cases h16 : s.size ≤ 16
    · have h16' : ¬ (16 : Int) < (s.size : Int) := by omega
      have h00 : (0 : Int) < (s.size : Int) := by omega
      by_cases hc : 97 ≤ s[0].toNat ∧ s[0].toNat ≤ 122
      · obtain ⟨c0, hc0⟩ : ∃ c, s[0] = c := ⟨_, rfl⟩
        have HC := Lib.hid (And.intro hc0 hc)
        rw [hc0] at hc
        have hc1 : ¬ (c0.toNat : Int) < 97 := by omega
        have hc2 : ¬ 122 < (c0.toNat : Int) := by omega
        clear hc
        go_enter Tryd.func42, Tryd.ntmps42
        go_wp2_with fail
        clear hc0 hc1 hc2
        go_loop [24] (fun i => ∃ k : Nat, k ≤ s.size ∧ i = .int .i64 (k : Int) ∧ ∀ j (h : j < s.size), j < k → okC s[j] = true) (fun i => s.size - (intOf i).toNat)
        case atStart => exact ⟨0, Nat.zero_le _, rfl, fun j h hj => absurd hj (Nat.not_lt_zero j)⟩
        case round =>
          obtain ⟨k, hk, rfl, hok⟩ := hrel
          have Hok := Lib.hid hok
          clear hok
          by_cases hlt : k < s.size
          · have hlt' : (k : Int) < (s.size : Int) := by omega
            cases hcc : okC s[k] with
            | false =>
              have Hno := Lib.hid (name_no hlt hcc)
              obtain ⟨c, hce⟩ : ∃ c, s[k] = c := ⟨_, rfl⟩
              have hcn := of_decide_eq_false hcc
              rw [hce] at hcn
              clear hcc
              by_cases q1 : c.toNat < 97
              · have q1' : (c.toNat : Int) < 97 := by omega
                by_cases q2 : c.toNat < 48
                · have q2' : (c.toNat : Int) < 48 := by omega
                  have q3 : ((c.toNat : Int) == 95) = false := by simp; omega
                  have q3' : ((c.toNat : Int) != 95) = true := by simp; omega
                  clear hcn q1 q2
                  go_wp2
                  go_ret
                  exact ⟨by rw [Hno.out]; rfl, rfl⟩
                · have q2' : ¬ (c.toNat : Int) < 48 := by omega
                  have q3 : ((c.toNat : Int) == 95) = false := by simp; omega
                  have q3' : ((c.toNat : Int) != 95) = true := by simp; omega
                  have q4 : 57 < (c.toNat : Int) := by omega
                  clear hcn q1 q2
                  go_wp2
                  go_ret
                  exact ⟨by rw [Hno.out]; rfl, rfl⟩
              · have q1' : ¬ (c.toNat : Int) < 97 := by omega
                have q2' : ¬ (c.toNat : Int) < 48 := by omega
                have q3 : ((c.toNat : Int) == 95) = false := by simp; omega
                have q3' : ((c.toNat : Int) != 95) = true := by simp; omega
                have q4 : 57 < (c.toNat : Int) := by omega
                have q5 : 122 < (c.toNat : Int) := by omega
                clear hcn q1
                go_wp2
                go_ret
                exact ⟨by rw [Hno.out]; rfl, rfl⟩
            | true =>
              have Hy : Hid (∀ j (h : j < s.size), j < k + 1 → okC s[j] = true) := Lib.hid (fun j h hj => by
                by_cases e : j < k
                · exact Hok.out j h e
                · obtain rfl : j = k := by omega
                  exact hcc)
              obtain ⟨c, hce⟩ : ∃ c, s[k] = c := ⟨_, rfl⟩
              have hcn := of_decide_eq_true hcc
              rw [hce] at hcn
              clear hcc
              by_cases q1 : c.toNat < 97
              · have q1' : (c.toNat : Int) < 97 := by omega
                by_cases q2 : c.toNat = 95
                · have q3 : ((c.toNat : Int) == 95) = true := by simp; omega
                  have q3' : ((c.toNat : Int) != 95) = false := by simp; omega
                  have q4 : 57 < (c.toNat : Int) := by omega
                  have q5 : ¬ (c.toNat : Int) < 48 := by omega
                  clear hcn q1 q2
                  go_wp2
                  go_round
                  case rel => exact ⟨k + 1, by omega, by go_num, Hy.out⟩
                  case measure => simp [intOf]; omega
                · have q4 : ¬ 57 < (c.toNat : Int) := by omega
                  have q5 : ¬ (c.toNat : Int) < 48 := by omega
                  clear hcn q1 q2
                  go_wp2
                  go_round
                  case rel => exact ⟨k + 1, by omega, by go_num, Hy.out⟩
                  case measure => simp [intOf]; omega
              · have q1' : ¬ (c.toNat : Int) < 97 := by omega
                have q4 : ¬ 122 < (c.toNat : Int) := by omega
                clear hcn q1
                go_wp2
                go_round
                case rel => exact ⟨k + 1, by omega, by go_num, Hy.out⟩
                case measure => simp [intOf]; omega
          · obtain rfl : k = s.size := by omega
            go_wp2
            go_ret
            exact ⟨by rw [name_yes h0 h16 (by rw [HC.out.1]; rw [HC.out.1] at HC; exact HC.out.2.1) (by rw [HC.out.1]; rw [HC.out.1] at HC; exact HC.out.2.2) (fun j h => Hok.out j h h)]; rfl, rfl⟩
      · have hno : isNameB s = false := decide_eq_false (fun h => hc ⟨by rw [← name_head s h0]; exact h.2.2.1, by rw [← name_head s h0]; exact h.2.2.2.1⟩)
        have Hno := Lib.hid hno
        obtain ⟨c0, hc0⟩ : ∃ c, s[0] = c := ⟨_, rfl⟩
        rw [hc0] at hc
        clear hno
        by_cases h1 : c0.toNat < 97
        · have h1' : (c0.toNat : Int) < 97 := by omega
          clear hc h1
          go_enter Tryd.func42, Tryd.ntmps42
          go_wp2_with fail
          go_ret
          exact ⟨by rw [Hno.out]; rfl, rfl⟩
        · have h1' : ¬ (c0.toNat : Int) < 97 := by omega
          have h2' : 122 < (c0.toNat : Int) := by omega
          clear hc h1
          go_enter Tryd.func42, Tryd.ntmps42
          go_wp2_with fail
          go_ret
          exact ⟨by rw [Hno.out]; rfl, rfl⟩
    · have h16' : (16 : Int) < (s.size : Int) := by omega
      have Hno := Lib.hid (show isNameB s = false from decide_eq_false (fun h => h16 h.2.1))
      clear h16
      go_enter Tryd.func42, Tryd.ntmps42
      go_wp2_with fail
      go_ret
      exact ⟨by rw [Hno.out]; rfl, rfl⟩
  · obtain rfl := is_empty h0
    go_enter Tryd.func42, Tryd.ntmps42
    go_wp2_with fail
    go_ret
    exact ⟨rfl, rfl⟩
end Go.Proofs.YtgkilaafeconlaaDoor
