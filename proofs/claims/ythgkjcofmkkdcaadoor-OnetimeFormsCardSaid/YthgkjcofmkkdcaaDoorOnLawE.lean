/- The walk of OnetimeForms. -/
import Derived.Test.YthgkjcofmkkdcaaDoorOnLawE4
namespace Go.Proofs.YthgkjcofmkkdcaaDoor
open Go.RowKit Go.Shelf
set_option linter.unusedVariables false
set_option linter.unusedSimpArgs false
set_option maxRecDepth 100000
theorem forms_up {w0 : World} {m n j bA oA ca : Nat} {B : Option Addr} {cb : Nat} {c : List UInt64} {p : Forks} (h : SigOf w0 m n j bA oA ca B cb c p) (r d : UInt64) : overB r ((m : Int) + 1) d (j : Int) c p = false := by
  refine over_no _ _ _ _ _ _ (fun k => ?_)
  have h1 := k.2.1
  have h2 := k.2.2.2.1.2.2
  have h3 := k.2.2.2.2
  have e : ((m : Int) + 1).toNat = m + 1 := by omega
  have hm := h.hm
  have hp : 2 ^ (m + 1) ≤ 256 := Nat.pow_le_pow_right (n := 2) (by omega) (show m + 1 ≤ 8 by omega)
  rw [e] at h2 h3
  have h3 := congrArg List.length h3
  rw [List.length_map, h.pl, sidesL_ok _ j (by omega) (by omega)] at h3
  have := sides_pow ⟨m + 1, by omega⟩ ⟨j, by omega⟩ (by show j < 2 ^ (m + 1); omega)
  have this : (Mk.sidesF 10 (2 ^ (m + 1)) j).length = m + 1 := this
  omega
theorem forms_down {w0 : World} {m n j bA oA ca : Nat} {B : Option Addr} {cb : Nat} {c : List UInt64} {p : Forks} (h : SigOf w0 m n j bA oA ca B cb c p) (r d : UInt64) : overB r ((m : Int) - 1) d (j : Int) c p = false := by
  refine over_no _ _ _ _ _ _ (fun k => ?_)
  have h0 := k.1
  have h2 := k.2.2.2.1.2.2
  have h3 := k.2.2.2.2
  have e : ((m : Int) - 1).toNat = m - 1 := by omega
  have hm := h.hm
  have hp : 2 ^ (m - 1) ≤ 256 := Nat.pow_le_pow_right (n := 2) (by omega) (show m - 1 ≤ 8 by omega)
  rw [e] at h2 h3
  have h3 := congrArg List.length h3
  rw [List.length_map, h.pl, sidesL_ok _ j (by omega) (by omega)] at h3
  have := sides_pow ⟨m - 1, by omega⟩ ⟨j, by omega⟩ (by show j < 2 ^ (m - 1); omega)
  have this : (Mk.sidesF 10 (2 ^ (m - 1)) j).length = m - 1 := this
  omega
/-- The blocks that the closures share. -/
structure Shared (w0 : World) (Sb Eb Hb : Nat) (j : Nat) (A : Option Addr) (ca : Nat) (B : Option Addr) (m cb : Nat) (x : UInt64) (W : World) : Prop where
  s : W.heap[Sb]? = some (.cells #[.int .i64 (j : Int), .slice A 18 ca, .slice B m cb] 27 (0, 0))
  e : W.cell? ⟨Eb, 0, none⟩ = some (.int .u64 x.toNat)
  h : W.cell? ⟨Hb, 0, none⟩ = some (.int .i64 (m : Int))
  sl : Sb < w0.heap.size
  el : Eb < w0.heap.size
  hl : Hb < w0.heap.size
theorem Shared.go {w0 W W' : World} {Sb Eb Hb j : Nat} {A : Option Addr} {ca : Nat} {B : Option Addr} {m cb : Nat} {x : UInt64} (h : Shared w0 Sb Eb Hb j A ca B m cb x W) (k : Below w0.heap.size w0 W) (k' : Below w0.heap.size w0 W') : Shared w0 Sb Eb Hb j A ca B m cb x W' :=
  ⟨(k'.block Sb h.sl).trans ((k.block Sb h.sl).symm.trans h.s), (k'.cell (p := ⟨Eb, 0, none⟩) h.el).trans ((k.cell (p := ⟨Eb, 0, none⟩) h.el).symm.trans h.e), (k'.cell (p := ⟨Hb, 0, none⟩) h.hl).trans ((k.cell (p := ⟨Hb, 0, none⟩) h.hl).symm.trans h.h), h.sl, h.el, h.hl⟩
set_option maxHeartbeats 2000000 in
theorem forms_bad0 (seed : ByteArray) (h i : Int) (text other : ByteArray) (x : UInt64) (kd : UInt64) (w : World) (hs : seed.size ≤ maxLen) (hu : Hid (usableB seed h [text, other] = true)) (hkd : Hid (keyD seed h = kd)) (hke : Hid (keyE seed h = 0)) (hb : Hid (signB seed h i = false)) (hT : OTabs w) :
    Calls Tryd.prog 5 #[.string seed, .int .i64 h, .int .i64 i, .string text, .string other, .int .u64 x.toNat] w fun e w' => e = .returned (.bool true) ∧ Below w.heap.size w w' := by
  go_enter Tryd.func5, Tryd.ntmps5
  go_wp2_with fail
  obtain ⟨W0, hW0⟩ : ∃ W0, W0 = (w.alloc (.cells #[.int .i64 h] 3)).alloc (.cells #[.int .u64 x.toNat] 23) := ⟨_, rfl⟩
  rw [← hW0]
  have kh0 : W0.cell? ⟨w.heap.size, 0, none⟩ = some (.int .i64 h) := by rw [hW0]; simp [go_sem]
  have ke0 : W0.cell? ⟨w.heap.size + 1, 0, none⟩ = some (.int .u64 x.toNat) := by rw [hW0]; simp [go_sem]
  have hBw0 : Below w.heap.size w W0 := by rw [hW0]; exact bal (bal (Below.refl _ _) _) _
  have hHl0 : w.heap.size < W0.heap.size := by rw [hW0]; simp; omega
  have hEl0 : w.heap.size + 1 < W0.heap.size := by rw [hW0]; simp
  clear hW0
  obtain ⟨Hb, hHb⟩ : ∃ q, q = w.heap.size := ⟨_, rfl⟩
  obtain ⟨Eb, hEb⟩ : ∃ q, q = w.heap.size + 1 := ⟨_, rfl⟩
  rw [← hHb] at kh0 hHl0
  rw [← hEb] at ke0 hEl0
  rw [← hEb, ← hHb]
  clear hHb hEb
  refine (head_any _ (hT.go hBw0)).mono ?_
  rintro e w1 ⟨rfl, hB1⟩
  have hBw1 := bgo hBw0 hB1
  have kh1 : w1.cell? ⟨Hb, 0, none⟩ = some (.int .i64 h) := (hB1.cell (p := ⟨Hb, 0, none⟩) hHl0).trans kh0
  have ke1 : w1.cell? ⟨Eb, 0, none⟩ = some (.int .u64 x.toNat) := (hB1.cell (p := ⟨Eb, 0, none⟩) hEl0).trans ke0
  have hHl1 := Nat.lt_of_lt_of_le hHl0 hB1.size
  have hEl1 := Nat.lt_of_lt_of_le hEl0 hB1.size
  clear kh0 ke0 hHl0 hEl0 hB1 hBw0
  go_wp2_with fail
  obtain ⟨W2, hW2⟩ : ∃ W2, W2 = w1.alloc (.cells #[.string text, .string other] 9) := ⟨_, rfl⟩
  have hB12 : Below w1.heap.size w1 W2 := by rw [hW2]; exact bal (Below.refl _ _) _
  have hsl : Sl W2 W2.heap.size 1 (some ⟨w1.heap.size, 0, none⟩) 2 (strV [text, other]) := by rw [hW2]; exact sl_cells (World.alloc_heap_new _ _) rfl rfl
  rw [← hW2]
  clear hW2
  refine (usable_any seed h _ 2 2 [text, other] rfl (by decide) true hu W2 hsl).mono ?_
  rintro e w' ⟨rfl, rfl⟩
  have hBw2 := bgo hBw1 hB12
  have kh2 : W2.cell? ⟨Hb, 0, none⟩ = some (.int .i64 h) := (hB12.cell (p := ⟨Hb, 0, none⟩) hHl1).trans kh1
  have ke2 : W2.cell? ⟨Eb, 0, none⟩ = some (.int .u64 x.toNat) := (hB12.cell (p := ⟨Eb, 0, none⟩) hEl1).trans ke1
  have hHl2 := Nat.lt_of_lt_of_le hHl1 hB12.size
  have hEl2 := Nat.lt_of_lt_of_le hEl1 hB12.size
  clear hsl kh1 ke1 hHl1 hEl1 hB12 hBw1
  go_wp2_with fail
  refine (key_any seed h kd 0 hkd hke W2 hs (hT.go hBw2)).mono ?_
  rintro e w3 ⟨rfl, hB3⟩
  have hBw3 := bgo hBw2 hB3
  have kh3 : w3.cell? ⟨Hb, 0, none⟩ = some (.int .i64 h) := (hB3.cell (p := ⟨Hb, 0, none⟩) hHl2).trans kh2
  clear kh2
  go_wp2_with fail
  refine (sign_bad seed h i text hb hs w3).mono ?_
  rintro e w4 ⟨rfl, hB4⟩
  have hBw4 := bgo hBw3 hB4
  clear kh3
  go_wp2_with fail
  go_ret
  exact ⟨rfl, bal hBw4 _⟩
set_option maxHeartbeats 2000000 in
theorem forms_bad1 (seed : ByteArray) (h i : Int) (text other : ByteArray) (x : UInt64) (kd : UInt64) (w : World) (hs : seed.size ≤ maxLen) (hu : Hid (usableB seed h [text, other] = true)) (hkd : Hid (keyD seed h = kd)) (hke : Hid (keyE seed h = 1)) (hb : Hid (signB seed h i = false)) (hT : OTabs w) :
    Calls Tryd.prog 5 #[.string seed, .int .i64 h, .int .i64 i, .string text, .string other, .int .u64 x.toNat] w fun e w' => e = .returned (.bool true) ∧ Below w.heap.size w w' := by
  go_enter Tryd.func5, Tryd.ntmps5
  go_wp2_with fail
  obtain ⟨W0, hW0⟩ : ∃ W0, W0 = (w.alloc (.cells #[.int .i64 h] 3)).alloc (.cells #[.int .u64 x.toNat] 23) := ⟨_, rfl⟩
  rw [← hW0]
  have kh0 : W0.cell? ⟨w.heap.size, 0, none⟩ = some (.int .i64 h) := by rw [hW0]; simp [go_sem]
  have ke0 : W0.cell? ⟨w.heap.size + 1, 0, none⟩ = some (.int .u64 x.toNat) := by rw [hW0]; simp [go_sem]
  have hBw0 : Below w.heap.size w W0 := by rw [hW0]; exact bal (bal (Below.refl _ _) _) _
  have hHl0 : w.heap.size < W0.heap.size := by rw [hW0]; simp; omega
  have hEl0 : w.heap.size + 1 < W0.heap.size := by rw [hW0]; simp
  clear hW0
  obtain ⟨Hb, hHb⟩ : ∃ q, q = w.heap.size := ⟨_, rfl⟩
  obtain ⟨Eb, hEb⟩ : ∃ q, q = w.heap.size + 1 := ⟨_, rfl⟩
  rw [← hHb] at kh0 hHl0
  rw [← hEb] at ke0 hEl0
  rw [← hEb, ← hHb]
  clear hHb hEb
  refine (head_any _ (hT.go hBw0)).mono ?_
  rintro e w1 ⟨rfl, hB1⟩
  have hBw1 := bgo hBw0 hB1
  have kh1 : w1.cell? ⟨Hb, 0, none⟩ = some (.int .i64 h) := (hB1.cell (p := ⟨Hb, 0, none⟩) hHl0).trans kh0
  have ke1 : w1.cell? ⟨Eb, 0, none⟩ = some (.int .u64 x.toNat) := (hB1.cell (p := ⟨Eb, 0, none⟩) hEl0).trans ke0
  have hHl1 := Nat.lt_of_lt_of_le hHl0 hB1.size
  have hEl1 := Nat.lt_of_lt_of_le hEl0 hB1.size
  clear kh0 ke0 hHl0 hEl0 hB1 hBw0
  go_wp2_with fail
  obtain ⟨W2, hW2⟩ : ∃ W2, W2 = w1.alloc (.cells #[.string text, .string other] 9) := ⟨_, rfl⟩
  have hB12 : Below w1.heap.size w1 W2 := by rw [hW2]; exact bal (Below.refl _ _) _
  have hsl : Sl W2 W2.heap.size 1 (some ⟨w1.heap.size, 0, none⟩) 2 (strV [text, other]) := by rw [hW2]; exact sl_cells (World.alloc_heap_new _ _) rfl rfl
  rw [← hW2]
  clear hW2
  refine (usable_any seed h _ 2 2 [text, other] rfl (by decide) true hu W2 hsl).mono ?_
  rintro e w' ⟨rfl, rfl⟩
  have hBw2 := bgo hBw1 hB12
  have kh2 : W2.cell? ⟨Hb, 0, none⟩ = some (.int .i64 h) := (hB12.cell (p := ⟨Hb, 0, none⟩) hHl1).trans kh1
  have ke2 : W2.cell? ⟨Eb, 0, none⟩ = some (.int .u64 x.toNat) := (hB12.cell (p := ⟨Eb, 0, none⟩) hEl1).trans ke1
  have hHl2 := Nat.lt_of_lt_of_le hHl1 hB12.size
  have hEl2 := Nat.lt_of_lt_of_le hEl1 hB12.size
  clear hsl kh1 ke1 hHl1 hEl1 hB12 hBw1
  go_wp2_with fail
  refine (key_any seed h kd 1 hkd hke W2 hs (hT.go hBw2)).mono ?_
  rintro e w3 ⟨rfl, hB3⟩
  have hBw3 := bgo hBw2 hB3
  have kh3 : w3.cell? ⟨Hb, 0, none⟩ = some (.int .i64 h) := (hB3.cell (p := ⟨Hb, 0, none⟩) hHl2).trans kh2
  clear kh2
  go_wp2_with fail
  refine (sign_bad seed h i text hb hs w3).mono ?_
  rintro e w4 ⟨rfl, hB4⟩
  have hBw4 := bgo hBw3 hB4
  clear kh3
  go_wp2_with fail
  go_ret
  exact ⟨rfl, bal hBw4 _⟩
set_option maxHeartbeats 2000000 in
theorem forms_none (seed : ByteArray) (h i : Int) (text other : ByteArray) (x : UInt64) (w : World) (hu : Hid (usableB seed h [text, other] = false)) (hT : OTabs w) :
    Calls Tryd.prog 5 #[.string seed, .int .i64 h, .int .i64 i, .string text, .string other, .int .u64 x.toNat] w fun e w' => e = .returned (.bool true) ∧ Below w.heap.size w w' := by
  go_enter Tryd.func5, Tryd.ntmps5
  go_wp2_with fail
  obtain ⟨W0, hW0⟩ : ∃ W0, W0 = (w.alloc (.cells #[.int .i64 h] 3)).alloc (.cells #[.int .u64 x.toNat] 23) := ⟨_, rfl⟩
  rw [← hW0]
  have kh0 : W0.cell? ⟨w.heap.size, 0, none⟩ = some (.int .i64 h) := by rw [hW0]; simp [go_sem]
  have ke0 : W0.cell? ⟨w.heap.size + 1, 0, none⟩ = some (.int .u64 x.toNat) := by rw [hW0]; simp [go_sem]
  have hBw0 : Below w.heap.size w W0 := by rw [hW0]; exact bal (bal (Below.refl _ _) _) _
  have hHl0 : w.heap.size < W0.heap.size := by rw [hW0]; simp; omega
  have hEl0 : w.heap.size + 1 < W0.heap.size := by rw [hW0]; simp
  clear hW0
  obtain ⟨Hb, hHb⟩ : ∃ q, q = w.heap.size := ⟨_, rfl⟩
  obtain ⟨Eb, hEb⟩ : ∃ q, q = w.heap.size + 1 := ⟨_, rfl⟩
  rw [← hHb] at kh0 hHl0
  rw [← hEb] at ke0 hEl0
  rw [← hEb, ← hHb]
  clear hHb hEb
  refine (head_any _ (hT.go hBw0)).mono ?_
  rintro e w1 ⟨rfl, hB1⟩
  have hBw1 := bgo hBw0 hB1
  have kh1 : w1.cell? ⟨Hb, 0, none⟩ = some (.int .i64 h) := (hB1.cell (p := ⟨Hb, 0, none⟩) hHl0).trans kh0
  have ke1 : w1.cell? ⟨Eb, 0, none⟩ = some (.int .u64 x.toNat) := (hB1.cell (p := ⟨Eb, 0, none⟩) hEl0).trans ke0
  have hHl1 := Nat.lt_of_lt_of_le hHl0 hB1.size
  have hEl1 := Nat.lt_of_lt_of_le hEl0 hB1.size
  clear kh0 ke0 hHl0 hEl0 hB1 hBw0
  go_wp2_with fail
  obtain ⟨W2, hW2⟩ : ∃ W2, W2 = w1.alloc (.cells #[.string text, .string other] 9) := ⟨_, rfl⟩
  have hB12 : Below w1.heap.size w1 W2 := by rw [hW2]; exact bal (Below.refl _ _) _
  have hsl : Sl W2 W2.heap.size 1 (some ⟨w1.heap.size, 0, none⟩) 2 (strV [text, other]) := by rw [hW2]; exact sl_cells (World.alloc_heap_new _ _) rfl rfl
  rw [← hW2]
  clear hW2
  refine (usable_any seed h _ 2 2 [text, other] rfl (by decide) false hu W2 hsl).mono ?_
  rintro e w' ⟨rfl, rfl⟩
  have hBw2 := bgo hBw1 hB12
  have kh2 : W2.cell? ⟨Hb, 0, none⟩ = some (.int .i64 h) := (hB12.cell (p := ⟨Hb, 0, none⟩) hHl1).trans kh1
  have ke2 : W2.cell? ⟨Eb, 0, none⟩ = some (.int .u64 x.toNat) := (hB12.cell (p := ⟨Eb, 0, none⟩) hEl1).trans ke1
  have hHl2 := Nat.lt_of_lt_of_le hHl1 hB12.size
  have hEl2 := Nat.lt_of_lt_of_le hEl1 hB12.size
  clear hsl kh1 ke1 hHl1 hEl1 hB12 hBw1
  clear kh2 ke2
  go_wp2_with fail
  go_ret
  exact ⟨rfl, hBw2⟩
set_option maxHeartbeats 8000000 in
theorem forms_ok (seed : ByteArray) (m n j : Nat) (text other : ByteArray) (x : UInt64) (w : World) (hs64 : seed.size ≤ 64) (hm : m ≤ 8) (hn : Hid (2 ^ m = n)) (hj : j < n) (hn2 : n ≤ 256) (ht : text.size ≤ maxLen) (ho : other.size ≤ maxLen) (hu : Hid (usableB seed (m : Int) [text, other] = true)) (hT : OTabs w) :
    Calls Tryd.prog 5 #[.string seed, .int .i64 (m : Int), .int .i64 (j : Int), .string text, .string other, .int .u64 x.toNat] w fun e w' => e = .returned (.bool true) ∧ Below w.heap.size w w' := by
  obtain ⟨kd, hkd⟩ : ∃ kd, keyD seed (m : Int) = kd := ⟨_, rfl⟩
  have Hkd := Lib.hid hkd
  have Hke : Hid (keyE seed (m : Int) = 0) := Lib.hid (by unfold keyE; rw [if_pos (show okB seed (m : Int) = true from decide_eq_true ⟨hs64, by omega, by omega⟩)])
  obtain ⟨d, hd⟩ : ∃ d, Dig.sum text.data.toList = d := ⟨_, rfl⟩
  obtain ⟨d', hd'⟩ : ∃ d, Dig.sum other.data.toList = d := ⟨_, rfl⟩
  obtain ⟨c, hc⟩ : ∃ c, On.chains seed.data.toList (j : Int) d 18 = c := ⟨_, rfl⟩
  obtain ⟨p, hp⟩ : ∃ p, keyP seed n (j : Int) = p := ⟨_, rfl⟩
  have hpl : p.length = m := by rw [← hp]; exact keyP_len seed m n j hm hn.out hj
  have hps : p.map (·.2) = sidesL (n : Int) (j : Int) := by rw [← hp]; exact keyP_map seed n j (by omega) hj
  have hcl : c.length = 18 := by rw [← hc]; exact On.chains_len _ _ _ _
  have Hd := Lib.hid hd
  have Hd' := Lib.hid hd'
  have Hc := Lib.hid hc
  have Hp := Lib.hid hp
  have HL := Lib.hid (And.intro hpl (And.intro hps hcl))
  have hs : seed.size ≤ maxLen := Nat.le_trans hs64 (by decide)
  clear hkd hd hd' hc hp hpl hps hcl
  go_enter Tryd.func5, Tryd.ntmps5
  go_wp2_with fail
  obtain ⟨W0, hW0⟩ : ∃ W0, W0 = (w.alloc (.cells #[.int .i64 (m : Int)] 3)).alloc (.cells #[.int .u64 x.toNat] 23) := ⟨_, rfl⟩
  rw [← hW0]
  have kh0 : W0.cell? ⟨w.heap.size, 0, none⟩ = some (.int .i64 (m : Int)) := by rw [hW0]; simp [go_sem]
  have ke0 : W0.cell? ⟨w.heap.size + 1, 0, none⟩ = some (.int .u64 x.toNat) := by rw [hW0]; simp [go_sem]
  have hBw0 : Below w.heap.size w W0 := by rw [hW0]; exact bal (bal (Below.refl _ _) _) _
  have hHl0 : w.heap.size < W0.heap.size := by rw [hW0]; simp; omega
  have hEl0 : w.heap.size + 1 < W0.heap.size := by rw [hW0]; simp
  clear hW0
  obtain ⟨Hb, hHb⟩ : ∃ q, q = w.heap.size := ⟨_, rfl⟩
  obtain ⟨Eb, hEb⟩ : ∃ q, q = w.heap.size + 1 := ⟨_, rfl⟩
  rw [← hHb] at kh0 hHl0
  rw [← hEb] at ke0 hEl0
  rw [← hEb, ← hHb]
  clear hHb hEb
  refine (head_any _ (hT.go hBw0)).mono ?_
  rintro e w1 ⟨rfl, hB1⟩
  have hBw1 := bgo hBw0 hB1
  have kh1 : w1.cell? ⟨Hb, 0, none⟩ = some (.int .i64 (m : Int)) := (hB1.cell (p := ⟨Hb, 0, none⟩) hHl0).trans kh0
  have ke1 : w1.cell? ⟨Eb, 0, none⟩ = some (.int .u64 x.toNat) := (hB1.cell (p := ⟨Eb, 0, none⟩) hEl0).trans ke0
  have hHl1 := Nat.lt_of_lt_of_le hHl0 hB1.size
  have hEl1 := Nat.lt_of_lt_of_le hEl0 hB1.size
  clear kh0 ke0 hHl0 hEl0 hB1 hBw0
  go_wp2_with fail
  obtain ⟨W2, hW2⟩ : ∃ W2, W2 = w1.alloc (.cells #[.string text, .string other] 9) := ⟨_, rfl⟩
  have hB12 : Below w1.heap.size w1 W2 := by rw [hW2]; exact bal (Below.refl _ _) _
  have hsl : Sl W2 W2.heap.size 1 (some ⟨w1.heap.size, 0, none⟩) 2 (strV [text, other]) := by rw [hW2]; exact sl_cells (World.alloc_heap_new _ _) rfl rfl
  rw [← hW2]
  clear hW2
  refine (usable_any seed (m : Int) _ 2 2 [text, other] rfl (by decide) true hu W2 hsl).mono ?_
  rintro e w' ⟨rfl, rfl⟩
  have hBw2 := bgo hBw1 hB12
  have kh2 : W2.cell? ⟨Hb, 0, none⟩ = some (.int .i64 (m : Int)) := (hB12.cell (p := ⟨Hb, 0, none⟩) hHl1).trans kh1
  have ke2 : W2.cell? ⟨Eb, 0, none⟩ = some (.int .u64 x.toNat) := (hB12.cell (p := ⟨Eb, 0, none⟩) hEl1).trans ke1
  have hHl2 := Nat.lt_of_lt_of_le hHl1 hB12.size
  have hEl2 := Nat.lt_of_lt_of_le hEl1 hB12.size
  clear hsl kh1 ke1 hHl1 hEl1 hB12 hBw1
  go_wp2_with fail
  refine (key_any seed (m : Int) kd 0 Hkd Hke W2 hs (hT.go hBw2)).mono ?_
  rintro e w3 ⟨rfl, hB3⟩
  have hBw3 := bgo hBw2 hB3
  have kh3 : w3.cell? ⟨Hb, 0, none⟩ = some (.int .i64 (m : Int)) := (hB3.cell (p := ⟨Hb, 0, none⟩) hHl2).trans kh2
  have ke3 : w3.cell? ⟨Eb, 0, none⟩ = some (.int .u64 x.toNat) := (hB3.cell (p := ⟨Eb, 0, none⟩) hEl2).trans ke2
  have hHl3 := Nat.lt_of_lt_of_le hHl2 hB3.size
  have hEl3 := Nat.lt_of_lt_of_le hEl2 hB3.size
  clear kh2 ke2 hHl2 hEl2 hB3 hBw2
  go_wp2_with fail
  refine (sign_src seed m j n hm hn hj hs64 text d Hd ht p (Lib.hid Hp.out) w3 (hT.go hBw3)).mono ?_
  rintro e w4 ⟨A, ca, B, cb, rfl, hca, hcb, hSA, hSB, hB4⟩
  rw [HL.out.1] at hSB hcb ⊢
  rw [Hc.out] at hSA
  have hBw4 := bgo hBw3 hB4
  have kh4 : w4.cell? ⟨Hb, 0, none⟩ = some (.int .i64 (m : Int)) := (hB4.cell (p := ⟨Hb, 0, none⟩) hHl3).trans kh3
  have ke4 : w4.cell? ⟨Eb, 0, none⟩ = some (.int .u64 x.toNat) := (hB4.cell (p := ⟨Eb, 0, none⟩) hEl3).trans ke3
  have hHl4 := Nat.lt_of_lt_of_le hHl3 hB4.size
  have hEl4 := Nat.lt_of_lt_of_le hEl3 hB4.size
  obtain ⟨bA, oA, rfl, _, _⟩ := hSA.2 (by decide)
  clear kh3 ke3 hHl3 hEl3 hB4 hBw3
  go_upto_region 6 with fail
  obtain ⟨w0, hw0⟩ : ∃ w0, w0 = w4.alloc (.cells #[.int .i64 (j : Int), .slice (some ⟨bA, oA, none⟩) 18 ca, .slice B m cb] 27) := ⟨_, rfl⟩
  rw [← hw0]
  have hB40 : Below w4.heap.size w4 w0 := by rw [hw0]; exact bal (Below.refl _ _) _
  have hSb : w0.heap[w4.heap.size]? = some (.cells #[.int .i64 (j : Int), .slice (some ⟨bA, oA, none⟩) 18 ca, .slice B m cb] 27 (0, 0)) := by rw [hw0]; exact World.alloc_heap_new _ _
  clear hw0
  obtain ⟨Sb, hSe⟩ : ∃ Sb, Sb = w4.heap.size := ⟨_, rfl⟩
  rw [← hSe] at hSb ⊢
  clear hSe
  have hSh0 : Shared w0 Sb Eb Hb j (some ⟨bA, oA, none⟩) ca B m cb x w0 := ⟨hSb, (hB40.cell (p := ⟨Eb, 0, none⟩) hEl4).trans ke4, (hB40.cell (p := ⟨Hb, 0, none⟩) hHl4).trans kh4, (Array.getElem?_eq_some_iff.1 hSb).1, Nat.lt_of_lt_of_le hEl4 hB40.size, Nat.lt_of_lt_of_le hHl4 hB40.size⟩
  have hSO : Hid (SigOf w0 m n j bA oA ca B cb c p) := Lib.hid ⟨hm, hn.out, hj, HL.out.2.2, HL.out.1, HL.out.2.1, hSA.go hB40, hSB.go hB40, hca, ⟨hcb.1, hcb.2.1⟩⟩
  have hnil := Lib.hid hcb.2.2
  have hBw0 := bgo hBw4 hB40
  clear hSA hSB hB40 kh4 ke4 hHl4 hEl4 hBw4 hca hcb
  have r0 : w0.cell? ⟨Sb, 0, none⟩ = some (.int .i64 (j : Int)) := by rw [Lib.cell_of_heap hSb]; rfl
  have r1 : w0.cell? ⟨Sb, 1, none⟩ = some (.slice (some ⟨bA, oA, none⟩) 18 ca) := by rw [Lib.cell_of_heap hSb]; rfl
  have r2 : w0.cell? ⟨Sb, 2, none⟩ = some (.slice B m cb) := by rw [Lib.cell_of_heap hSb]; rfl
  have r3 := hSh0.h
  have HSh0 := Lib.hid hSh0
  clear hSb hSh0
  go_upto_region 10 with fail
  clear r0 r1 r2 r3
  obtain ⟨X0, hX0⟩ : ∃ X0, X0 = w0.alloc (.cells #[.slice none 0 0] 29) := ⟨_, rfl⟩
  rw [← hX0]
  have hBb0 : X0.heap[w0.heap.size]? = some (.cells #[.slice none 0 0] 29 (0, 0)) := by rw [hX0]; exact World.alloc_heap_new _ _
  have hBX0 : Below w0.heap.size w0 X0 := by rw [hX0]; exact bal (Below.refl _ _) _
  clear hX0
  obtain ⟨Bb, hBe⟩ : ∃ Bb, Bb = w0.heap.size := ⟨_, rfl⟩
  rw [← hBe] at hBb0 ⊢
  have hBbl : w0.heap.size ≤ Bb := by omega
  clear hBe
  have G0 := Lib.hid (And.intro hBX0 (And.intro hBb0 (HSh0.out.go (Below.refl _ _) hBX0)))
  clear hBb0 hBX0
  go_wp2_with fail
  refine (change2 m w0 X0 Sb Eb Hb Bb (j : Int) (some ⟨bA, oA, none⟩) 18 ca B m cb (0, 0) (.slice none 0 0) [] G0.out.2.2.s G0.out.2.1 ⟨rfl, .inl ⟨rfl, rfl⟩⟩ G0.out.1 hBbl (by simp) (form2 hSO G0.out.1 G0.out.2.2.s)).mono ?_
  rintro e X1 ⟨rfl, q1, v1, hbb, hown, hBX, hkX, hbd⟩
  have hown' : X1.ownsRow w0.heap.size 27 3 v1 ([q1] : Sigs).length (sigsV [q1]) := hown
  have G1 := Lib.hid (And.intro hBX (And.intro hbb (And.intro (G0.out.2.2.go G0.out.1 hBX) (And.intro hown' hbd))))
  clear hown hown' hBX hkX hbb hbd G0
  go_wp2_with fail
  refine (change3 m w0 X1 Sb Eb Hb Bb (j : Int) (some ⟨bA, oA, none⟩) 18 ca B m cb (0, 0) v1 [q1] G1.out.2.2.1.s G1.out.2.1 G1.out.2.2.2.1 G1.out.1 hBbl (by simp) (form3 hSO hnil.out G1.out.1 G1.out.2.2.1.s Eb x G1.out.2.2.1.e (Nat.lt_of_lt_of_le G1.out.2.2.1.el G1.out.1.size))).mono ?_
  rintro e X2 ⟨rfl, q2, v2, hbb, hown, hBX, hkX, hbd⟩
  have hown' : X2.ownsRow w0.heap.size 27 3 v2 ([q1, q2] : Sigs).length (sigsV [q1, q2]) := hown
  have G2 := Lib.hid (And.intro hBX (And.intro hbb (And.intro (G1.out.2.2.1.go G1.out.1 hBX) (And.intro hown' (And.intro hbd ((G1.out.2.2.2.2).keep hkX))))))
  clear hown hown' hBX hkX hbb hbd G1
  go_wp2_with fail
  refine (change4 m w0 X2 Sb Eb Hb Bb (j : Int) (some ⟨bA, oA, none⟩) 18 ca B m cb (0, 0) v2 [q1, q2] G2.out.2.2.1.s G2.out.2.1 G2.out.2.2.2.1 G2.out.1 hBbl (by simp) (form4 hSO hnil.out G2.out.1 G2.out.2.2.1.s Eb x G2.out.2.2.1.e (Nat.lt_of_lt_of_le G2.out.2.2.1.el G2.out.1.size))).mono ?_
  rintro e X3 ⟨rfl, q3, v3, hbb, hown, hBX, hkX, hbd⟩
  have hown' : X3.ownsRow w0.heap.size 27 3 v3 ([q1, q2, q3] : Sigs).length (sigsV [q1, q2, q3]) := hown
  have G3 := Lib.hid (And.intro hBX (And.intro hbb (And.intro (G2.out.2.2.1.go G2.out.1 hBX) (And.intro hown' (And.intro hbd (And.intro ((G2.out.2.2.2.2.1).keep hkX) ((G2.out.2.2.2.2.2).keep hkX)))))))
  clear hown hown' hBX hkX hbb hbd G2
  go_wp2_with fail
  refine (change5 m w0 X3 Sb Eb Hb Bb (j : Int) (some ⟨bA, oA, none⟩) 18 ca B m cb (0, 0) v3 [q1, q2, q3] G3.out.2.2.1.s G3.out.2.1 G3.out.2.2.2.1 G3.out.1 hBbl (by simp) (form5 hSO G3.out.1)).mono ?_
  rintro e X4 ⟨rfl, q4, v4, hbb, hown, hBX, hkX, hbd⟩
  have hown' : X4.ownsRow w0.heap.size 27 3 v4 ([q1, q2, q3, q4] : Sigs).length (sigsV [q1, q2, q3, q4]) := hown
  have G4 := Lib.hid (And.intro hBX (And.intro hbb (And.intro (G3.out.2.2.1.go G3.out.1 hBX) (And.intro hown' (And.intro hbd (And.intro ((G3.out.2.2.2.2.1).keep hkX) (And.intro ((G3.out.2.2.2.2.2.1).keep hkX) ((G3.out.2.2.2.2.2.2).keep hkX))))))))
  clear hown hown' hBX hkX hbb hbd G3
  go_wp2_with fail
  refine (change6 m w0 X4 Sb Eb Hb Bb (j : Int) (some ⟨bA, oA, none⟩) 18 ca B m cb (0, 0) v4 [q1, q2, q3, q4] G4.out.2.2.1.s G4.out.2.1 G4.out.2.2.2.1 G4.out.1 hBbl (by simp) (form6 hSO G4.out.1 Hb G4.out.2.2.1.h (Nat.lt_of_lt_of_le G4.out.2.2.1.hl G4.out.1.size))).mono ?_
  rintro e X5 ⟨rfl, q5, v5, hbb, hown, hBX, hkX, hbd⟩
  have hown' : X5.ownsRow w0.heap.size 27 3 v5 ([q1, q2, q3, q4, q5] : Sigs).length (sigsV [q1, q2, q3, q4, q5]) := hown
  have G5 := Lib.hid (And.intro hBX (And.intro hbb (And.intro (G4.out.2.2.1.go G4.out.1 hBX) (And.intro hown' (And.intro hbd (And.intro ((G4.out.2.2.2.2.1).keep hkX) (And.intro ((G4.out.2.2.2.2.2.1).keep hkX) (And.intro ((G4.out.2.2.2.2.2.2.1).keep hkX) ((G4.out.2.2.2.2.2.2.2).keep hkX)))))))))
  clear hown hown' hBX hkX hbb hbd G4
  have kh5 := G5.out.2.2.1.h
  by_cases hm0 : 0 < m
  · have hm0' : decide ((0 : Int) < (m : Int)) = true := decide_eq_true (by omega)
    have hd1 : decide (0 < m) = true := decide_eq_true hm0
    obtain ⟨bB, oB, rfl, _, _⟩ := hSO.out.sb.2 hm0
    go_wp2_with fail
    refine (change7 m w0 X5 Sb Eb Hb Bb (j : Int) (some ⟨bA, oA, none⟩) 18 ca (some ⟨bB, oB, none⟩) m cb (0, 0) v5 [q1, q2, q3, q4, q5] G5.out.2.2.1.s G5.out.2.1 G5.out.2.2.2.1 G5.out.1 hBbl (by simp) (form7 hSO hm0 G5.out.1 G5.out.2.2.1.s)).mono ?_
    rintro e X6 ⟨rfl, q6, v6, hbb, hown, hBX, hkX, hbd⟩
    have hown' : X6.ownsRow w0.heap.size 27 3 v6 ([q1, q2, q3, q4, q5, q6] : Sigs).length (sigsV [q1, q2, q3, q4, q5, q6]) := hown
    have G6 := Lib.hid (And.intro hBX (And.intro hbb (And.intro (G5.out.2.2.1.go G5.out.1 hBX) (And.intro hown' (And.intro hbd (And.intro ((G5.out.2.2.2.2.1).keep hkX) (And.intro ((G5.out.2.2.2.2.2.1).keep hkX) (And.intro ((G5.out.2.2.2.2.2.2.1).keep hkX) (And.intro ((G5.out.2.2.2.2.2.2.2.1).keep hkX) ((G5.out.2.2.2.2.2.2.2.2).keep hkX))))))))))
    clear hown hown' hBX hkX hbb hbd G5
    clear kh5
    go_wp2_with fail
    refine (change8 m w0 X6 Sb Eb Hb Bb (j : Int) (some ⟨bA, oA, none⟩) 18 ca (some ⟨bB, oB, none⟩) m cb (0, 0) v6 [q1, q2, q3, q4, q5, q6] G6.out.2.2.1.s G6.out.2.1 G6.out.2.2.2.1 G6.out.1 hBbl (by simp) (form8 hSO hm0 G6.out.1 G6.out.2.2.1.s)).mono ?_
    rintro e X7 ⟨rfl, q7, v7, hbb, hown, hBX, hkX, hbd⟩
    have hown' : X7.ownsRow w0.heap.size 27 3 v7 ([q1, q2, q3, q4, q5, q6, q7] : Sigs).length (sigsV [q1, q2, q3, q4, q5, q6, q7]) := hown
    have G7 := Lib.hid (And.intro hBX (And.intro hbb (And.intro (G6.out.2.2.1.go G6.out.1 hBX) (And.intro hown' (And.intro hbd (And.intro ((G6.out.2.2.2.2.1).keep hkX) (And.intro ((G6.out.2.2.2.2.2.1).keep hkX) (And.intro ((G6.out.2.2.2.2.2.2.1).keep hkX) (And.intro ((G6.out.2.2.2.2.2.2.2.1).keep hkX) (And.intro ((G6.out.2.2.2.2.2.2.2.2.1).keep hkX) ((G6.out.2.2.2.2.2.2.2.2.2).keep hkX)))))))))))
    clear hown hown' hBX hkX hbb hbd G6
    have hall : ∀ q ∈ ([q1, q2, q3, q4, q5, q6, q7] : Sigs), BadAt m w0 X7 q := by
      intro q hq
      simp only [List.mem_cons, List.not_mem_nil, or_false] at hq
      rcases hq with rfl | rfl | rfl | rfl | rfl | rfl | rfl
      · exact G7.out.2.2.2.2.2.2.2.2.2.2
      · exact G7.out.2.2.2.2.2.2.2.2.2.1
      · exact G7.out.2.2.2.2.2.2.2.2.1
      · exact G7.out.2.2.2.2.2.2.2.1
      · exact G7.out.2.2.2.2.2.2.1
      · exact G7.out.2.2.2.2.2.1
      · exact G7.out.2.2.2.2.1
    obtain ⟨LL, hLL⟩ : ∃ LL : Sigs, LL = [q1, q2, q3, q4, q5, q6, q7] := ⟨_, rfl⟩
    have hLn : LL.length = 7 := by rw [hLL]; rfl
    obtain ⟨Ab, cbb, hvb, hSb⟩ := own_slice G7.out.2.2.2.1
    have b0 : X7.cell? ⟨Bb, 0, none⟩ = some (.slice Ab 7 cbb) := by rw [Lib.cell_of_heap G7.out.2.1, hvb]; rfl
    have hSb' : Sl X7 X7.heap.size 3 Ab 7 (sigsV LL) := by rw [hLL]; exact hSb
    obtain ⟨bb, ob, rfl, hbb, hcell⟩ := hSb'.2 (by decide)
    have hallL : ∀ q ∈ LL, BadAt m w0 X7 q := by rw [hLL]; exact hall
    have E := Lib.hid (And.intro hcell hallL)
    have HLn := Lib.hid hLn
    have hBX := G7.out.1
    have hSh := Lib.hid G7.out.2.2.1
    have hBwX := bgo hBw0 hBX
    have hXl : w0.heap.size ≤ X7.heap.size := hBX.size
    clear hall hLL hLn hvb hSb hSb' hcell hallL G7
    go_wp2
    go_loopw [98] (fun q wr => ∃ k : Nat, k ≤ 7 ∧ q = .int .i64 k ∧ Below X7.heap.size X7 wr) (fun q _ => 7 - (intOf q).toNat)
    case atStart => exact ⟨0, by omega, rfl, Below.refl _ _⟩
    case round =>
      clear b0
      obtain ⟨k, hk, rfl, hBr⟩ := hrel
      have hBwr := bgo hBwX hBr
      have hB0r := bgo hBX hBr
      have hSr := hSh.out.go hBX hB0r
      by_cases hlt : k < 7
      · have hlt' : (k : Int) < 7 := by omega
        have hkl : k < LL.length := by rw [HLn.out]; exact hlt
        obtain ⟨g0, g1, g2⟩ := sigsV_get LL k hkl
        obtain ⟨cc, pp, e1, e2, e3, e4, e5, e6⟩ := E.out.2 _ (List.getElem_mem hkl)
        obtain ⟨⟨qi, qA, qn, qca, qB, qm, qcb⟩, hq⟩ : ∃ q, q = LL[k] := ⟨_, rfl⟩
        rw [← hq] at g0 g1 g2 e1 e2 e3 e4 e5 e6
        dsimp only at g0 g1 g2 e1 e2 e3 e4 e5 e6
        have c0 : wr.cell? ⟨bb, ob + k * 3, none⟩ = some (.int .i64 qi) := (hBr.cell (p := ⟨bb, ob + k * 3, none⟩) hbb).trans (E.out.1 _ _ g0)
        have c1 : wr.cell? ⟨bb, ob + k * 3 + 1, none⟩ = some (.slice qA qn qca) := (hBr.cell (p := ⟨bb, ob + k * 3 + 1, none⟩) hbb).trans (by rw [Nat.add_assoc]; exact E.out.1 _ _ g1)
        have c2 : wr.cell? ⟨bb, ob + k * 3 + 2, none⟩ = some (.slice qB qm qcb) := (hBr.cell (p := ⟨bb, ob + k * 3 + 2, none⟩) hbb).trans (by rw [Nat.add_assoc]; exact E.out.1 _ _ g2)
        have V := Lib.hid (And.intro e1 (And.intro e2 (And.intro e3 (And.intro (e4.sl.go hBr) (And.intro (e5.sl.go hBr) e6)))))
        have hEr := hSr.e
        have hHr := hSr.h
        have hElr : Eb < wr.heap.size := Nat.lt_of_lt_of_le hSr.el hB0r.size
        have hHlr : Hb < wr.heap.size := Nat.lt_of_lt_of_le hSr.hl hB0r.size
        clear hq g0 g1 g2 e1 e2 e3 e4 e5 e6 hkl hSr
        go_upto_region 21 with fail
        obtain ⟨Y, hY⟩ : ∃ Y, Y = wr.alloc (.cells #[.int .i64 qi, .slice qA qn qca, .slice qB qm qcb] 27) := ⟨_, rfl⟩
        rw [← hY]
        have hBY : Below wr.heap.size wr Y := by rw [hY]; exact bal (Below.refl _ _) _
        have hYb : Y.heap[wr.heap.size]? = some (.cells #[.int .i64 qi, .slice qA qn qca, .slice qB qm qcb] 27 (0, 0)) := by rw [hY]; exact World.alloc_heap_new _ _
        clear hY c0 c1 c2
        obtain ⟨tb, htb⟩ : ∃ tb, tb = wr.heap.size := ⟨_, rfl⟩
        rw [← htb] at hYb ⊢
        have htl : tb < Y.heap.size := (Array.getElem?_eq_some_iff.1 hYb).1
        clear htb
        have y0 : Y.cell? ⟨tb, 0, none⟩ = some (.int .i64 qi) := by rw [Lib.cell_of_heap hYb]; rfl
        have y1 : Y.cell? ⟨tb, 1, none⟩ = some (.slice qA qn qca) := by rw [Lib.cell_of_heap hYb]; rfl
        have y2 : Y.cell? ⟨tb, 2, none⟩ = some (.slice qB qm qcb) := by rw [Lib.cell_of_heap hYb]; rfl
        have yE : Y.cell? ⟨Eb, 0, none⟩ = some (.int .u64 x.toNat) := (hBY.cell (p := ⟨Eb, 0, none⟩) hElr).trans hEr
        have yH : Y.cell? ⟨Hb, 0, none⟩ = some (.int .i64 (m : Int)) := (hBY.cell (p := ⟨Hb, 0, none⟩) hHlr).trans hHr
        have hBwY := bgo hBwr hBY
        have HY := Lib.hid (And.intro y0 (And.intro y1 (And.intro y2 (And.intro yE yH))))
        have hElY : Eb < Y.heap.size := Nat.lt_of_lt_of_le hElr hBY.size
        have hHlY : Hb < Y.heap.size := Nat.lt_of_lt_of_le hHlr hBY.size
        clear hYb hEr hHr
        go_wp2_with fail
        refine (over_at kd (m : Int) text d Hd ht qi qA qB qca qcb qn qm cc pp V.out.1 V.out.2.1 V.out.2.2.1 false (Lib.hid (V.out.2.2.2.2.2 kd d)) Y (hT.go hBwY) (V.out.2.2.2.1.go hBY) (V.out.2.2.2.2.1.go hBY)).mono ?_
        rintro e Z1 ⟨rfl, hZ1⟩
        clear y0 y1 y2 yE yH
        obtain ⟨y0, y1, y2, yE, yH⟩ := HY.out
        have z0 := (hZ1.cell (p := ⟨tb, 0, none⟩) htl).trans y0
        have z1 := (hZ1.cell (p := ⟨tb, 1, none⟩) htl).trans y1
        have z2 := (hZ1.cell (p := ⟨tb, 2, none⟩) htl).trans y2
        have zE := (hZ1.cell (p := ⟨Eb, 0, none⟩) hElY).trans yE
        have zH := (hZ1.cell (p := ⟨Hb, 0, none⟩) hHlY).trans yH
        have hBYZ := bgo hBY hZ1
        clear y0 y1 y2 yE yH
        go_wp2_with fail
        refine (over_at x (m : Int) other d' Hd' ho qi qA qB qca qcb qn qm cc pp V.out.1 V.out.2.1 V.out.2.2.1 false (Lib.hid (V.out.2.2.2.2.2 x d')) Z1 (hT.go (bgo hBwr hBYZ)) (V.out.2.2.2.1.go hBYZ) (V.out.2.2.2.2.1.go hBYZ)).mono ?_
        rintro e Z2 ⟨rfl, hZ2⟩
        have hBf := bgo hBr (bgo hBYZ hZ2)
        clear z0 z1 z2 zE zH
        go_wp2_with fail
        go_roundw
        case rel => exact ⟨k + 1, by omega, by go_num, hBf⟩
        case measure => simp [intOf]; omega
      · obtain rfl : k = 7 := by omega
        have s0 : wr.cell? ⟨Sb, 0, none⟩ = some (.int .i64 (j : Int)) := by rw [Lib.cell_of_heap hSr.s]; rfl
        have s1 : wr.cell? ⟨Sb, 1, none⟩ = some (.slice (some ⟨bA, oA, none⟩) 18 ca) := by rw [Lib.cell_of_heap hSr.s]; rfl
        have s2 : wr.cell? ⟨Sb, 2, none⟩ = some (.slice (some ⟨bB, oB, none⟩) m cb) := by rw [Lib.cell_of_heap hSr.s]; rfl
        have s3 := hSr.h
        have hSlr : Sb < wr.heap.size := Nat.lt_of_lt_of_le hSr.sl hB0r.size
        have hHlr : Hb < wr.heap.size := Nat.lt_of_lt_of_le hSr.hl hB0r.size
        have C := Lib.hid (And.intro s0 (And.intro s1 (And.intro s2 s3)))
        clear hSr
        have mI : (m : Int) ≤ 8 := by omega
        go_wp2_with fail
        refine (over_at kd ((m : Int) + 1) text d Hd ht (j : Int) (some ⟨bA, oA, none⟩) (some ⟨bB, oB, none⟩) ca cb 18 m c p HL.out.2.2 HL.out.1 (by decide) false (Lib.hid (forms_up hSO.out kd d)) wr (hT.go hBwr) (hSO.out.sa.go hB0r) (hSO.out.sb.go hB0r)).mono ?_
        rintro e Z1 ⟨rfl, hZ1⟩
        clear s0 s1 s2 s3
        obtain ⟨s0, s1, s2, s3⟩ := C.out
        have z0 := (hZ1.cell (p := ⟨Sb, 0, none⟩) hSlr).trans s0
        have z1 := (hZ1.cell (p := ⟨Sb, 1, none⟩) hSlr).trans s1
        have z2 := (hZ1.cell (p := ⟨Sb, 2, none⟩) hSlr).trans s2
        have z3 := (hZ1.cell (p := ⟨Hb, 0, none⟩) hHlr).trans s3
        have hBwZ := bgo hBwr hZ1
        have hB0Z := bgo hB0r hZ1
        clear s0 s1 s2 s3
        go_wp2_with fail
        refine (over_at kd ((m : Int) - 1) text d Hd ht (j : Int) (some ⟨bA, oA, none⟩) (some ⟨bB, oB, none⟩) ca cb 18 m c p HL.out.2.2 HL.out.1 (by decide) false (Lib.hid (forms_down hSO.out kd d)) Z1 (hT.go hBwZ) (hSO.out.sa.go hB0Z) (hSO.out.sb.go hB0Z)).mono ?_
        rintro e Z2 ⟨rfl, hZ2⟩
        have hBf := bgo hBwZ hZ2
        clear z0 z1 z2 z3
        go_wp2_with fail
        go_ret
        exact ⟨rfl, hBf⟩
  · have hd0 : decide ((0 : Int) < (m : Int)) = false := decide_eq_false (by omega)
    have hd1 : decide (0 < m) = false := decide_eq_false hm0
    have hall : ∀ q ∈ ([q1, q2, q3, q4, q5] : Sigs), BadAt m w0 X5 q := by
      intro q hq
      simp only [List.mem_cons, List.not_mem_nil, or_false] at hq
      rcases hq with rfl | rfl | rfl | rfl | rfl
      · exact G5.out.2.2.2.2.2.2.2.2
      · exact G5.out.2.2.2.2.2.2.2.1
      · exact G5.out.2.2.2.2.2.2.1
      · exact G5.out.2.2.2.2.2.1
      · exact G5.out.2.2.2.2.1
    obtain ⟨LL, hLL⟩ : ∃ LL : Sigs, LL = [q1, q2, q3, q4, q5] := ⟨_, rfl⟩
    have hLn : LL.length = 5 := by rw [hLL]; rfl
    obtain ⟨Ab, cbb, hvb, hSb⟩ := own_slice G5.out.2.2.2.1
    have b0 : X5.cell? ⟨Bb, 0, none⟩ = some (.slice Ab 5 cbb) := by rw [Lib.cell_of_heap G5.out.2.1, hvb]; rfl
    have hSb' : Sl X5 X5.heap.size 3 Ab 5 (sigsV LL) := by rw [hLL]; exact hSb
    obtain ⟨bb, ob, rfl, hbb, hcell⟩ := hSb'.2 (by decide)
    have hallL : ∀ q ∈ LL, BadAt m w0 X5 q := by rw [hLL]; exact hall
    have E := Lib.hid (And.intro hcell hallL)
    have HLn := Lib.hid hLn
    have hBX := G5.out.1
    have hSh := Lib.hid G5.out.2.2.1
    have hBwX := bgo hBw0 hBX
    have hXl : w0.heap.size ≤ X5.heap.size := hBX.size
    clear hall hLL hLn hvb hSb hSb' hcell hallL G5
    go_wp2
    go_loopw [98] (fun q wr => ∃ k : Nat, k ≤ 5 ∧ q = .int .i64 k ∧ Below X5.heap.size X5 wr) (fun q _ => 5 - (intOf q).toNat)
    case atStart => exact ⟨0, by omega, rfl, Below.refl _ _⟩
    case round =>
      clear b0
      obtain ⟨k, hk, rfl, hBr⟩ := hrel
      have hBwr := bgo hBwX hBr
      have hB0r := bgo hBX hBr
      have hSr := hSh.out.go hBX hB0r
      by_cases hlt : k < 5
      · have hlt' : (k : Int) < 5 := by omega
        have hkl : k < LL.length := by rw [HLn.out]; exact hlt
        obtain ⟨g0, g1, g2⟩ := sigsV_get LL k hkl
        obtain ⟨cc, pp, e1, e2, e3, e4, e5, e6⟩ := E.out.2 _ (List.getElem_mem hkl)
        obtain ⟨⟨qi, qA, qn, qca, qB, qm, qcb⟩, hq⟩ : ∃ q, q = LL[k] := ⟨_, rfl⟩
        rw [← hq] at g0 g1 g2 e1 e2 e3 e4 e5 e6
        dsimp only at g0 g1 g2 e1 e2 e3 e4 e5 e6
        have c0 : wr.cell? ⟨bb, ob + k * 3, none⟩ = some (.int .i64 qi) := (hBr.cell (p := ⟨bb, ob + k * 3, none⟩) hbb).trans (E.out.1 _ _ g0)
        have c1 : wr.cell? ⟨bb, ob + k * 3 + 1, none⟩ = some (.slice qA qn qca) := (hBr.cell (p := ⟨bb, ob + k * 3 + 1, none⟩) hbb).trans (by rw [Nat.add_assoc]; exact E.out.1 _ _ g1)
        have c2 : wr.cell? ⟨bb, ob + k * 3 + 2, none⟩ = some (.slice qB qm qcb) := (hBr.cell (p := ⟨bb, ob + k * 3 + 2, none⟩) hbb).trans (by rw [Nat.add_assoc]; exact E.out.1 _ _ g2)
        have V := Lib.hid (And.intro e1 (And.intro e2 (And.intro e3 (And.intro (e4.sl.go hBr) (And.intro (e5.sl.go hBr) e6)))))
        have hEr := hSr.e
        have hHr := hSr.h
        have hElr : Eb < wr.heap.size := Nat.lt_of_lt_of_le hSr.el hB0r.size
        have hHlr : Hb < wr.heap.size := Nat.lt_of_lt_of_le hSr.hl hB0r.size
        clear hq g0 g1 g2 e1 e2 e3 e4 e5 e6 hkl hSr
        go_upto_region 21 with fail
        obtain ⟨Y, hY⟩ : ∃ Y, Y = wr.alloc (.cells #[.int .i64 qi, .slice qA qn qca, .slice qB qm qcb] 27) := ⟨_, rfl⟩
        rw [← hY]
        have hBY : Below wr.heap.size wr Y := by rw [hY]; exact bal (Below.refl _ _) _
        have hYb : Y.heap[wr.heap.size]? = some (.cells #[.int .i64 qi, .slice qA qn qca, .slice qB qm qcb] 27 (0, 0)) := by rw [hY]; exact World.alloc_heap_new _ _
        clear hY c0 c1 c2
        obtain ⟨tb, htb⟩ : ∃ tb, tb = wr.heap.size := ⟨_, rfl⟩
        rw [← htb] at hYb ⊢
        have htl : tb < Y.heap.size := (Array.getElem?_eq_some_iff.1 hYb).1
        clear htb
        have y0 : Y.cell? ⟨tb, 0, none⟩ = some (.int .i64 qi) := by rw [Lib.cell_of_heap hYb]; rfl
        have y1 : Y.cell? ⟨tb, 1, none⟩ = some (.slice qA qn qca) := by rw [Lib.cell_of_heap hYb]; rfl
        have y2 : Y.cell? ⟨tb, 2, none⟩ = some (.slice qB qm qcb) := by rw [Lib.cell_of_heap hYb]; rfl
        have yE : Y.cell? ⟨Eb, 0, none⟩ = some (.int .u64 x.toNat) := (hBY.cell (p := ⟨Eb, 0, none⟩) hElr).trans hEr
        have yH : Y.cell? ⟨Hb, 0, none⟩ = some (.int .i64 (m : Int)) := (hBY.cell (p := ⟨Hb, 0, none⟩) hHlr).trans hHr
        have hBwY := bgo hBwr hBY
        have HY := Lib.hid (And.intro y0 (And.intro y1 (And.intro y2 (And.intro yE yH))))
        have hElY : Eb < Y.heap.size := Nat.lt_of_lt_of_le hElr hBY.size
        have hHlY : Hb < Y.heap.size := Nat.lt_of_lt_of_le hHlr hBY.size
        clear hYb hEr hHr
        go_wp2_with fail
        refine (over_at kd (m : Int) text d Hd ht qi qA qB qca qcb qn qm cc pp V.out.1 V.out.2.1 V.out.2.2.1 false (Lib.hid (V.out.2.2.2.2.2 kd d)) Y (hT.go hBwY) (V.out.2.2.2.1.go hBY) (V.out.2.2.2.2.1.go hBY)).mono ?_
        rintro e Z1 ⟨rfl, hZ1⟩
        clear y0 y1 y2 yE yH
        obtain ⟨y0, y1, y2, yE, yH⟩ := HY.out
        have z0 := (hZ1.cell (p := ⟨tb, 0, none⟩) htl).trans y0
        have z1 := (hZ1.cell (p := ⟨tb, 1, none⟩) htl).trans y1
        have z2 := (hZ1.cell (p := ⟨tb, 2, none⟩) htl).trans y2
        have zE := (hZ1.cell (p := ⟨Eb, 0, none⟩) hElY).trans yE
        have zH := (hZ1.cell (p := ⟨Hb, 0, none⟩) hHlY).trans yH
        have hBYZ := bgo hBY hZ1
        clear y0 y1 y2 yE yH
        go_wp2_with fail
        refine (over_at x (m : Int) other d' Hd' ho qi qA qB qca qcb qn qm cc pp V.out.1 V.out.2.1 V.out.2.2.1 false (Lib.hid (V.out.2.2.2.2.2 x d')) Z1 (hT.go (bgo hBwr hBYZ)) (V.out.2.2.2.1.go hBYZ) (V.out.2.2.2.2.1.go hBYZ)).mono ?_
        rintro e Z2 ⟨rfl, hZ2⟩
        have hBf := bgo hBr (bgo hBYZ hZ2)
        clear z0 z1 z2 zE zH
        go_wp2_with fail
        go_roundw
        case rel => exact ⟨k + 1, by omega, by go_num, hBf⟩
        case measure => simp [intOf]; omega
      · obtain rfl : k = 5 := by omega
        have s0 : wr.cell? ⟨Sb, 0, none⟩ = some (.int .i64 (j : Int)) := by rw [Lib.cell_of_heap hSr.s]; rfl
        have s1 : wr.cell? ⟨Sb, 1, none⟩ = some (.slice (some ⟨bA, oA, none⟩) 18 ca) := by rw [Lib.cell_of_heap hSr.s]; rfl
        have s2 : wr.cell? ⟨Sb, 2, none⟩ = some (.slice B m cb) := by rw [Lib.cell_of_heap hSr.s]; rfl
        have s3 := hSr.h
        have hSlr : Sb < wr.heap.size := Nat.lt_of_lt_of_le hSr.sl hB0r.size
        have hHlr : Hb < wr.heap.size := Nat.lt_of_lt_of_le hSr.hl hB0r.size
        have C := Lib.hid (And.intro s0 (And.intro s1 (And.intro s2 s3)))
        clear hSr
        have mI : (m : Int) ≤ 8 := by omega
        go_wp2_with fail
        refine (over_at kd ((m : Int) + 1) text d Hd ht (j : Int) (some ⟨bA, oA, none⟩) B ca cb 18 m c p HL.out.2.2 HL.out.1 (by decide) false (Lib.hid (forms_up hSO.out kd d)) wr (hT.go hBwr) (hSO.out.sa.go hB0r) (hSO.out.sb.go hB0r)).mono ?_
        rintro e Z1 ⟨rfl, hZ1⟩
        clear s0 s1 s2 s3
        obtain ⟨s0, s1, s2, s3⟩ := C.out
        have z0 := (hZ1.cell (p := ⟨Sb, 0, none⟩) hSlr).trans s0
        have z1 := (hZ1.cell (p := ⟨Sb, 1, none⟩) hSlr).trans s1
        have z2 := (hZ1.cell (p := ⟨Sb, 2, none⟩) hSlr).trans s2
        have z3 := (hZ1.cell (p := ⟨Hb, 0, none⟩) hHlr).trans s3
        have hBwZ := bgo hBwr hZ1
        have hB0Z := bgo hB0r hZ1
        clear s0 s1 s2 s3
        go_wp2_with fail
        refine (over_at kd ((m : Int) - 1) text d Hd ht (j : Int) (some ⟨bA, oA, none⟩) B ca cb 18 m c p HL.out.2.2 HL.out.1 (by decide) false (Lib.hid (forms_down hSO.out kd d)) Z1 (hT.go hBwZ) (hSO.out.sa.go hB0Z) (hSO.out.sb.go hB0Z)).mono ?_
        rintro e Z2 ⟨rfl, hZ2⟩
        have hBf := bgo hBwZ hZ2
        clear z0 z1 z2 z3
        go_wp2_with fail
        go_ret
        exact ⟨rfl, hBf⟩
theorem onetimeForms_walk (seed : ByteArray) (h i : Int) (text other : ByteArray) (x0 : Int) (w : World) (hs : seed.size ≤ maxLen) (wh : (Lit.int .i64 h).wf = true) (wi : (Lit.int .i64 i).wf = true) (ht : text.size ≤ maxLen) (ho : other.size ≤ maxLen) (wx : (Lit.int .u64 x0).wf = true) (hT : OTabs w) :
    Calls Tryd.prog 5 #[.string seed, .int .i64 h, .int .i64 i, .string text, .string other, .int .u64 x0] w fun e w' => e = .returned (.bool true) ∧ Below w.heap.size w w' := by
  obtain ⟨x, rfl⟩ := u64_of_wf wx
  obtain ⟨u, hu⟩ : ∃ u, usableB seed h [text, other] = u := ⟨_, rfl⟩
  cases u
  · exact forms_none seed h i text other x w (Lib.hid hu) hT
  · obtain ⟨q, hq⟩ : ∃ q, signB seed h i = q := ⟨_, rfl⟩
    cases q
    · by_cases hok : okB seed h = true
      · exact forms_bad0 seed h i text other x _ w hs (Lib.hid hu) (Lib.hid rfl) (Lib.hid (by unfold keyE; rw [if_pos hok])) (Lib.hid hq) hT
      · exact forms_bad1 seed h i text other x _ w hs (Lib.hid hu) (Lib.hid rfl) (Lib.hid (by unfold keyE; rw [if_neg hok])) (Lib.hid hq) hT
    · obtain ⟨m, n, j, rfl, rfl, hm, hs64, hn, hj, hn2⟩ := signB_out hq
      exact forms_ok seed m n j text other x w hs64 hm (Lib.hid hn) hj hn2 ht ho (Lib.hid hu) hT
end Go.Proofs.YthgkjcofmkkdcaaDoor
