/- Leaves are equal exactly if their parts are. -/
import Derived.Test.YtgkilaafeconlaaDoorPsW2
namespace Go.Proofs.YtgkilaafeconlaaDoor
theorem dec_mem (u : Nat) : ∀ c ∈ Lib.decDigits u, 48 ≤ c.toNat ∧ c.toNat ≤ 57 := by
  induction u using Nat.strongRecOn with
  | _ u ih =>
    intro c hc
    rw [Lib.decDigits] at hc
    split at hc
    · rename_i h
      obtain rfl := List.mem_singleton.1 hc
      rw [UInt8.toNat_ofNat']
      omega
    · rename_i h
      rcases List.mem_append.1 hc with hc | hc
      · exact ih (u / 10) (by omega) c hc
      · obtain rfl := List.mem_singleton.1 hc
        rw [UInt8.toNat_ofNat']
        omega
def decVal (l : List UInt8) : Nat := l.foldl (fun a c => 10 * a + (c.toNat - 48)) 0
theorem dec_val (u : Nat) : decVal (Lib.decDigits u) = u := by
  induction u using Nat.strongRecOn with
  | _ u ih =>
    rw [Lib.decDigits]
    split
    · rename_i h
      simp only [decVal, List.foldl_cons, List.foldl_nil, UInt8.toNat_ofNat']
      omega
    · rename_i h
      have := ih (u / 10) (by omega)
      unfold decVal at this ⊢
      rw [List.foldl_append, this]
      simp only [List.foldl_cons, List.foldl_nil, UInt8.toNat_ofNat']
      omega
theorem dec_inj {u v : Nat} (h : Lib.decDigits u = Lib.decDigits v) : u = v := by
  rw [← dec_val u, h, dec_val]
theorem itoa_mem (n : Int) : ∀ c ∈ Lib.itoa n, c.toNat = 45 ∨ (48 ≤ c.toNat ∧ c.toNat ≤ 57) := by
  intro c hc
  unfold Lib.itoa at hc
  split at hc
  · rcases List.mem_cons.1 hc with rfl | hc
    · exact .inl rfl
    · exact .inr (dec_mem _ c hc)
  · exact .inr (dec_mem _ c hc)
theorem itoa_inj {n m : Int} (h : Lib.itoa n = Lib.itoa m) : n = m := by
  unfold Lib.itoa at h
  split at h <;> split at h
  · injection h with _ h
    have := dec_inj h
    omega
  · rename_i h1 h2
    have : (45 : UInt8) ∈ Lib.decDigits m.toNat := by rw [← h]; exact List.mem_cons_self
    have := (dec_mem _ _ this).1
    exact absurd this (by decide)
  · rename_i h1 h2
    have : (45 : UInt8) ∈ Lib.decDigits n.toNat := by rw [h]; exact List.mem_cons_self
    have := (dec_mem _ _ this).1
    exact absurd this (by decide)
  · have := dec_inj h
    omega
theorem cut_at (s : UInt8) : ∀ (l1 l2 r1 r2 : List UInt8), s ∉ l1 → s ∉ l2 → l1 ++ s :: r1 = l2 ++ s :: r2 → l1 = l2 ∧ r1 = r2
  | [], [], r1, r2, _, _, h => ⟨rfl, by simpa using h⟩
  | [], x :: l2, r1, r2, _, h2, h => by
    injection h with h _
    exact absurd (h ▸ List.mem_cons_self) h2
  | x :: l1, [], r1, r2, h1, _, h => by
    injection h with h _
    exact absurd (h ▸ List.mem_cons_self) h1
  | x :: l1, y :: l2, r1, r2, h1, h2, h => by
    injection h with he h
    have := cut_at s l1 l2 r1 r2 (fun k => h1 (List.mem_cons_of_mem _ k)) (fun k => h2 (List.mem_cons_of_mem _ k)) h
    exact ⟨by rw [he, this.1], this.2⟩
theorem leaf_list (a : ByteArray) (m : Int) (c : ByteArray) : (leafB a m c).data.toList = Lib.itoa a.size ++ 58 :: (a.data.toList ++ (Lib.itoa m ++ 32 :: c.data.toList)) := by
  unfold leafB
  rw [catB_data]
  simp [itoaB, colon, blank]
theorem ba_ext {a b : ByteArray} (h : a.data.toList = b.data.toList) : a = b := by
  exact ByteArray.ext (Array.toList_inj.1 h)
theorem leaf_inj {a b c d : ByteArray} {m n : Int} (h : leafB a m c = leafB b n d) : a = b ∧ m = n ∧ c = d := by
  have h := congrArg (fun x : ByteArray => x.data.toList) h
  simp only [leaf_list] at h
  have no (s : UInt8) (hs : s.toNat ≠ 45) (h2 : ¬ (48 ≤ s.toNat ∧ s.toNat ≤ 57)) (k : Int) : s ∉ Lib.itoa k := fun hk => by
    rcases itoa_mem k s hk with h | h
    · exact hs h
    · exact h2 h
  obtain ⟨h1, h2⟩ := cut_at 58 _ _ _ _ (no _ (by decide) (by decide) _) (no _ (by decide) (by decide) _) h
  have hl := itoa_inj h1
  have hl' : a.data.toList.length = b.data.toList.length := by
    have hs : a.data.size = b.data.size := by
      have : a.size = b.size := by omega
      exact this
    rw [Array.length_toList, Array.length_toList, hs]
  obtain ⟨h3, h4⟩ := List.append_inj h2 hl'
  obtain ⟨h5, h6⟩ := cut_at 32 _ _ _ _ (no _ (by decide) (by decide) _) (no _ (by decide) (by decide) _) h4
  exact ⟨ba_ext h3, itoa_inj h5, ba_ext h6⟩
theorem leaf_eq (a b c d : ByteArray) (m n : Int) : (leafB a m c = leafB b n d) ↔ (a = b ∧ m = n ∧ c = d) :=
  ⟨leaf_inj, fun ⟨h1, h2, h3⟩ => by rw [h1, h2, h3]⟩
end Go.Proofs.YtgkilaafeconlaaDoor
