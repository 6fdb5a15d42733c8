/- The walks of package rangeproof, second part: challenge, random, divided, inField. -/
import Derived.Test.YthebahahpkficaaDoorRpW1
namespace Go.Proofs.YthebahahpkficaaDoor
open Go.RowKit
set_option linter.unusedVariables false
def bpVal (p : BP) : Value := .agg #[.int .i64 p.c, .int .i64 p.f0, .int .i64 p.f1, .int .i64 p.e0, .int .i64 p.e1, .int .i64 p.z0, .int .i64 p.z1]
def bpC (p : BP) : List Value := [.int .i64 p.c, .int .i64 p.f0, .int .i64 p.f1, .int .i64 p.e0, .int .i64 p.e1, .int .i64 p.z0, .int .i64 p.z1]
theorem join3 (a b c : List UInt8) : Lib.join [a, b, c] [32] = a ++ [32] ++ b ++ [32] ++ c := by simp [Lib.join, List.intercalate]
theorem join2 (a b : List UInt8) : Lib.join [a, b] [32] = a ++ [32] ++ b := by simp [Lib.join, List.intercalate]
def I64 (x : Int) : Prop := -9223372036854775808 ≤ x ∧ x ≤ 9223372036854775807
theorem itoa_len {x : Int} (h : I64 x) : (Lib.itoa x).length ≤ 21 := Lib.itoa_length_le x h.1 h.2
theorem rem_q (d : UInt64) : ((d.toNat : Int) % 1073741789) = modQ d := by unfold modQ; omega
theorem text3_at (a b c : Int) (B : Nat) (t : ByteArray) (ht : Hid (textB [a, b, c] = t)) (ha : I64 a) (hb : I64 b) (hc : I64 c) (W : World) (hT : PTab W) (h0 : W.cell? ⟨B, 0, none⟩ = some (.int .i64 a)) (h1 : W.cell? ⟨B, 1, none⟩ = some (.int .i64 b)) (h2 : W.cell? ⟨B, 2, none⟩ = some (.int .i64 c)) (hB : B < W.heap.size) :
    Calls Tryd.prog 43 #[.slice (some ⟨B, 0, none⟩) 3 3] W fun e w' => e = .returned (.string t) ∧ Below W.heap.size W w' := by
  rw [← ht.out]
  refine textOf_any (some ⟨B, 0, none⟩) 3 [a, b, c] W hT ⟨rfl, fun _ => ⟨B, 0, rfl, hB, ?_⟩⟩ (by simp) (by simp) ?_ ?_
  · intro j u hu
    match j, hu with
    | 0, hu => simp [intV] at hu; subst hu; exact h0
    | 1, hu => simp [intV] at hu; subst hu; exact h1
    | 2, hu => simp [intV] at hu; subst hu; exact h2
    | j + 3, hu => simp [intV] at hu
  · intro x hx
    simp at hx
    rcases hx with rfl | rfl | rfl
    · exact ha
    · exact hb
    · exact hc
  · simp only [List.map_cons, List.map_nil, join3, List.length_append]
    have := itoa_len ha; have := itoa_len hb; have := itoa_len hc
    simp; omega
theorem text2_at (a b : Int) (B : Nat) (t : ByteArray) (ht : Hid (textB [a, b] = t)) (ha : I64 a) (hb : I64 b) (W : World) (hT : PTab W) (h0 : W.cell? ⟨B, 0, none⟩ = some (.int .i64 a)) (h1 : W.cell? ⟨B, 1, none⟩ = some (.int .i64 b)) (hB : B < W.heap.size) :
    Calls Tryd.prog 43 #[.slice (some ⟨B, 0, none⟩) 2 2] W fun e w' => e = .returned (.string t) ∧ Below W.heap.size W w' := by
  rw [← ht.out]
  refine textOf_any (some ⟨B, 0, none⟩) 2 [a, b] W hT ⟨rfl, fun _ => ⟨B, 0, rfl, hB, ?_⟩⟩ (by simp) (by simp) ?_ ?_
  · intro j u hu
    match j, hu with
    | 0, hu => simp [intV] at hu; subst hu; exact h0
    | 1, hu => simp [intV] at hu; subst hu; exact h1
    | j + 2, hu => simp [intV] at hu
  · intro x hx
    simp at hx
    rcases hx with rfl | rfl
    · exact ha
    · exact hb
  · simp only [List.map_cons, List.map_nil, join2, List.length_append]
    have := itoa_len ha; have := itoa_len hb
    simp; omega
theorem textB3_size {a b c : Int} (ha : I64 a) (hb : I64 b) (hc : I64 c) : (textB [a, b, c]).size ≤ 100 := by
  have h1 := itoa_len ha; have h2 := itoa_len hb; have h3 := itoa_len hc
  show (Lib.join _ [32]).toArray.size ≤ 100
  simp only [List.map_cons, List.map_nil, join3]
  simp; omega
theorem textB2_size {a b : Int} (ha : I64 a) (hb : I64 b) : (textB [a, b]).size ≤ 100 := by
  have h1 := itoa_len ha; have h2 := itoa_len hb
  show (Lib.join _ [32]).toArray.size ≤ 100
  simp only [List.map_cons, List.map_nil, join2]
  simp; omega
theorem sum_at (s : ByteArray) (d : UInt64) (hd : Hid (Dig.sum s.data.toList = d)) (w : World) (hs : s.size ≤ maxLen) : Calls Tryd.prog 21 #[.string s] w fun e w' => e = .returned (.int .u64 d.toNat) ∧ w = w' := by
  rw [← hd.out]
  exact sum_any s w hs
theorem modQ_eq (d : UInt64) (v : Int) (h : Hid (modQ d = v)) : (d.toNat : Int) % 1073741789 = v := by rw [← h.out]; exact rem_q d
set_option maxHeartbeats 2000000 in
set_option maxRecDepth 100000 in
theorem challenge_any (p : BP) (v : Int) (hv : Hid (chalI p.c p.f0 p.f1 = v)) (w : World) (hT : PTab w) (hc : I64 p.c) (hf0 : I64 p.f0) (hf1 : I64 p.f1) :
    Calls Tryd.prog 34 #[bpVal p] w fun e w' => e = .returned (.int .i64 v) ∧ Below w.heap.size w w' := by
  have HT := Lib.hid hT
  clear hT
  obtain ⟨c, f0, f1, e0, e1, z0, z1⟩ := p
  unfold bpVal
  simp only [] at hc hf0 hf1 hv ⊢
  obtain ⟨t, ht⟩ : ∃ t, textB [c, f0, f1] = t := ⟨_, rfl⟩
  have hts := textB3_size hc hf0 hf1
  rw [ht] at hts
  obtain ⟨d, hd⟩ : ∃ d, Dig.sum ((⟨#[99, 32]⟩ : ByteArray) ++ t).data.toList = d := ⟨_, rfl⟩
  have hvd : modQ d = v := by
    rw [← hv.out]
    unfold chalI
    rw [← hd, ← ht]
    congr 2
    rw [app_data]
    show _ ++ (Lib.join _ [32]) = _
    rw [List.map_cons, List.map_cons, List.map_cons, List.map_nil, join3]
    rfl
  have hb := modQ_bd d
  rw [hvd] at hb
  have hmod := modQ_eq d v (Lib.hid hvd)
  have hn1 : ¬ (9223372036854775807 < 2 + t.size) := by omega
  have hss : ((⟨#[99, 32]⟩ : ByteArray) ++ t).size ≤ maxLen := by rw [app_size]; show 2 + t.size ≤ _; unfold maxLen; omega
  have Ht := Lib.hid ht
  have Hd := Lib.hid hd
  have Hhc := Lib.hid (And.intro hc (And.intro hf0 hf1))
  have HM := Lib.hid hmod
  clear ht hd hvd hv hc hf0 hf1 hmod
  go_enter Tryd.func34, Tryd.ntmps34
  go_wp2_with fail
  obtain ⟨w1, hw1⟩ : ∃ w1, w1 = (w.alloc (.cells #[.int .i64 c, .int .i64 f0, .int .i64 f1, .int .i64 e0, .int .i64 e1, .int .i64 z0, .int .i64 z1] 25)).alloc (.cells #[.int .i64 c, .int .i64 f0, .int .i64 f1] 3) := ⟨_, rfl⟩
  rw [← hw1]
  have hB1 : Below w.heap.size w w1 := by rw [hw1]; exact bal (bal (Below.refl _ _) _) _
  refine (text3_at c f0 f1 (w.heap.size + 1) t Ht Hhc.out.1 Hhc.out.2.1 Hhc.out.2.2 w1 (HT.out.go hB1) (by rw [hw1]; simp [go_sem]) (by rw [hw1]; simp [go_sem]) (by rw [hw1]; simp [go_sem]) (by rw [hw1]; simp)).mono ?_
  clear hw1
  rintro e w2 ⟨rfl, hB2⟩
  have hB3 := bgo hB1 hB2
  clear hB1 hB2
  go_wp2_with fail
  refine (sum_at _ d Hd _ hss).mono ?_
  rintro e w' ⟨rfl, rfl⟩
  have hmod := HM.out
  go_wp2
  go_ret
  exact ⟨rfl, hB3⟩
def rnT (seed : ByteArray) (i k : Int) : ByteArray := seed ++ ⟨#[32]⟩ ++ textB [i, k]
set_option maxHeartbeats 2000000 in
set_option maxRecDepth 100000 in
theorem random_any (seed : ByteArray) (i k v : Int) (hv : Hid (rndI seed.data.toList i k = v)) (w : World) (hT : PTab w) (hs : seed.size ≤ 1000) (hi : I64 i) (hk : I64 k) :
    Calls Tryd.prog 23 #[.string seed, .int .i64 i, .int .i64 k] w fun e w' => e = .returned (.int .i64 v) ∧ Below w.heap.size w w' := by
  have HT := Lib.hid hT
  clear hT
  obtain ⟨t, ht⟩ : ∃ t, textB [i, k] = t := ⟨_, rfl⟩
  have hts := textB2_size hi hk
  rw [ht] at hts
  obtain ⟨d, hd⟩ : ∃ d, Dig.sum (seed ++ ⟨#[32]⟩ ++ t).data.toList = d := ⟨_, rfl⟩
  have hvd : modQ d = v := by
    rw [← hv.out]
    unfold rndI
    rw [← hd, ← ht]
    congr 2
    rw [app_data, app_data]
    show _ ++ [32] ++ (Lib.join _ [32]) = _
    rw [List.map_cons, List.map_cons, List.map_nil, join2]
    rfl
  have hb := modQ_bd d
  rw [hvd] at hb
  have hmod := modQ_eq d v (Lib.hid hvd)
  have hn1 : ¬ (9223372036854775807 < seed.size + 1) := by omega
  have hn2 : ¬ (9223372036854775807 < seed.size + 1 + t.size) := by omega
  have hss : (seed ++ ⟨#[32]⟩ ++ t).size ≤ maxLen := by rw [app_size, app_size]; show seed.size + 1 + t.size ≤ _; unfold maxLen; omega
  have Ht := Lib.hid ht
  have Hd := Lib.hid hd
  have Hhc := Lib.hid (And.intro hi hk)
  have HM := Lib.hid hmod
  clear ht hd hvd hv hi hk hmod
  go_enter Tryd.func23, Tryd.ntmps23
  go_wp2_with fail
  obtain ⟨w1, hw1⟩ : ∃ w1, w1 = w.alloc (.cells #[.int .i64 i, .int .i64 k] 3) := ⟨_, rfl⟩
  rw [← hw1]
  have hB1 : Below w.heap.size w w1 := by rw [hw1]; exact bal (Below.refl _ _) _
  refine (text2_at i k w.heap.size t Ht Hhc.out.1 Hhc.out.2 w1 (HT.out.go hB1) (by rw [hw1]; simp [go_sem]) (by rw [hw1]; simp [go_sem]) (by rw [hw1]; simp)).mono ?_
  clear hw1
  rintro e w2 ⟨rfl, hB2⟩
  have hB3 := bgo hB1 hB2
  clear hB1 hB2
  go_wp2_with fail
  refine (sum_at _ d Hd _ hss).mono ?_
  rintro e w' ⟨rfl, rfl⟩
  have hmod := HM.out
  go_wp2
  go_ret
  exact ⟨rfl, hB3⟩
end Go.Proofs.YthebahahpkficaaDoor
