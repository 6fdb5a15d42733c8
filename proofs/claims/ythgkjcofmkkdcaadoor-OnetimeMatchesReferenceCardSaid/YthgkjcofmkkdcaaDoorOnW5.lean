/- The walk of onetime.Verify. -/
import Derived.Test.YthgkjcofmkkdcaaDoorOnW4
import Derived.Test.YthgkjcofmkkdcaaDoorOnDig
import Derived.Deep.Cut
import Derived.Deep.DeepCutAuto
namespace Go.Proofs.YthgkjcofmkkdcaaDoor
open Go.RowKit Go.Shelf
set_option linter.unusedVariables false
theorem dig_index (d : UInt64) (k : Nat) (hk : k < 18) (w : World) : (Instr.index 64 (.agg (digA d)) (.int .i64 (k : Int))).run Tryd.prog w = .ok (.int .i64 (On.dg d k : Int)) w := by
  rcases On.lt18 hk with rfl | rfl | rfl | rfl | rfl | rfl | rfl | rfl | rfl | rfl | rfl | rfl | rfl | rfl | rfl | rfl | rfl | rfl <;> kernel_rfl
def overB (root : UInt64) (h : Int) (d : UInt64) (i : Int) (c : List UInt64) (p : Forks) : Bool :=
  decide (0 ≤ h ∧ h ≤ 8 ∧ c.length = 18) && verifyB root ((2 ^ h.toNat : Nat) : Int) i (bytesOf (On.climbTo c d 18)) p
theorem Bld.cell {b : Nat} {W0 wx : World} (hB : Below b W0 wx) {a j : Nat} (ha : a < b) : wx.cell? ⟨a, j, none⟩ = W0.cell? ⟨a, j, none⟩ := hB.cell (p := ⟨a, j, none⟩) ha
set_option maxRecDepth 100000 in
set_option maxHeartbeats 4000000 in
theorem over_ok (root : UInt64) (h n : Nat) (hh : h ≤ 8) (hn : Hid (2 ^ h = n)) (text : ByteArray) (d : UInt64) (hd : Hid (Dig.sum text.data.toList = d)) (ht : text.size ≤ maxLen) (i : Int) (A B : Option Addr) (ca cb : Nat) (c : List UInt64) (p : Forks) (hc : c.length = 18) (r : Bool)
    (hr : Hid (verifyB root (n : Int) i (bytesOf (On.climbTo c d 18)) p = r)) (w : World) (hT : OTabs w) (hA : Sl w w.heap.size 1 A 18 (u64V c)) (hBp : Sl w w.heap.size 2 B p.length (forkV p)) :
    Calls Tryd.prog 19 #[.int .u64 root.toNat, .int .i64 (h : Int), .string text, .agg #[.int .i64 i, .slice A 18 ca, .slice B p.length cb]] w fun e w' => e = .returned (.bool r) ∧ Below w.heap.size w w' := by
  have hh' : ¬ ((8 : Int) < (h : Int)) := by omega
  have hw : IntKind.i64.wrap (2 ^ h) = (n : Int) := by
    have e : (2 : Int) ^ h = (n : Int) := by rw [← hn.out, Int.natCast_pow]; rfl
    have hn256 : n ≤ 256 := by rw [← hn.out]; exact Nat.pow_le_pow_right (n := 2) (by omega) hh
    rw [e, IntWalk.i64_in _ (by omega)]
  obtain ⟨b0, off, rfl, hb0, hcell⟩ := hA.2 (by omega)
  have Hcell := Lib.hid hcell
  have HBp := Lib.hid hBp
  have Hw := Lib.hid hw
  clear hA hBp hcell hw
  go_enter Tryd.func19, Tryd.ntmps19
  go_wp2_with fail
  refine (digits_any text d hd _ ht).mono ?_
  rintro e W0 ⟨rfl, hB0⟩
  have hS0 := hB0.size
  simp only [World.size_alloc] at hS0
  have k1 : W0.cell? ⟨w.heap.size, 1, none⟩ = some (.slice (some ⟨b0, off, none⟩) 18 ca) := (hB0.cell (p := ⟨w.heap.size, 1, none⟩) (by simp; omega)).trans (by simp [go_sem])
  have k0 : W0.cell? ⟨w.heap.size, 0, none⟩ = some (.int .i64 i) := (hB0.cell (p := ⟨w.heap.size, 0, none⟩) (by simp; omega)).trans (by simp [go_sem])
  have k2 : W0.cell? ⟨w.heap.size, 2, none⟩ = some (.slice B p.length cb) := (hB0.cell (p := ⟨w.heap.size, 2, none⟩) (by simp; omega)).trans (by simp [go_sem])
  have hb : Bld (w.heap.size + 1) [] W0 := by
    have h1 := Bld.new (w.alloc (.cells #[.int .i64 i, .slice (some ⟨b0, off, none⟩) 18 ca, .slice B p.length cb] 27))
    rw [World.size_alloc] at h1
    exact h1.go hB0
  have hBw : Below w.heap.size w W0 := (bal (bal (Below.refl _ _) _) _).trans (hB0.mono (by simp; omega))
  have hT0 := hT.go hBw
  have K := Lib.hid (And.intro k0 (And.intro k1 k2))
  have Hb := Lib.hid hb
  clear hB0 hb k0 k1 k2
  unfold digV
  go_wp2
  go_loopw [26] (fun i wx => ∃ j : Nat, j ≤ 18 ∧ i = .int .i64 j ∧ Bld (w.heap.size + 1) (On.climbTo c d j) wx ∧ Below (w.heap.size + 1) W0 wx) (fun i _ => 18 - (intOf i).toNat)
  case atStart => exact ⟨0, by omega, rfl, Hb.out, Below.refl _ _⟩
  case round =>
    obtain ⟨j, hj, rfl, hb, hBx⟩ := hrel
    have hBwx : Below w.heap.size w wr := hBw.trans (hBx.mono (by omega))
    have hT2 := hT.go hBwx
    have k1 : wr.cell? ⟨w.heap.size, 1, none⟩ = some (.slice (some ⟨b0, off, none⟩) 18 ca) := (hBx.cell (p := ⟨w.heap.size, 1, none⟩) (by simp)).trans K.out.2.1
    have Hb := Lib.hid hb
    clear hb
    by_cases hj18 : j < 18
    · have hj' : (j : Int) < 18 := by omega
      have hidx : ∀ W, (Instr.index 64 (.agg (digA d)) (.int .i64 (j : Int))).run Tryd.prog W = .ok (.int .i64 (On.dg d j : Int)) W := fun W => dig_index d j hj18 W
      have hel : wr.cell? ⟨b0, off + j, none⟩ = some (.int .u64 (c.getD j 0).toNat) := (hBwx.cell (p := ⟨b0, off + j, none⟩) hb0).trans (Hcell.out j _ (u64V_get c j (by omega)))
      have hdl := On.dg_le d j
      obtain ⟨x, hx⟩ : ∃ x, c.getD j 0 = x := ⟨_, rfl⟩
      obtain ⟨m, hm⟩ : ∃ m, On.dg d j = m := ⟨_, rfl⟩
      rw [hx] at hel
      rw [hm] at hdl hidx
      have Hx := Lib.hid hx
      have Hm := Lib.hid hm
      clear hx hm
      go_wp2_with fail
      have e15 : (15 : Int) - (m : Int) = ((15 - m : Nat) : Int) := by omega
      rw [e15]
      refine (walk_any x (15 - m) (by omega) _ hT2.1).mono ?_
      rintro e w2 ⟨rfl, hB2⟩
      obtain ⟨y, hy⟩ : ∃ y, On.steps (15 - m) x = y := ⟨_, rfl⟩
      rw [hy]
      have hT4 := hT2.go hB2
      have Hy := Lib.hid hy
      clear hy
      go_wp2_with fail
      refine (text_b y _ hT4.1).mono ?_
      rintro e w3 ⟨rfl, hB3⟩
      have hB13 := bgo hB2 hB3
      go_wp2_with fail
      refine (bwrite (w.heap.size + 1) _ (Dig.text y) _ (Lib.hid rfl) _ (Hb.out.go hB13) (by rw [On.climbTo_len, On.text_len]; omega)).mono ?_
      rintro e w4 ⟨⟨v4, rfl⟩, hb4, hB4⟩
      have hB5 : Below (w.heap.size + 1) W0 w4 := (hBx.trans (hB13.mono (Nat.le_of_lt Hb.out.lt))).trans hB4
      have Hb4 := Lib.hid hb4
      clear hb4 hB2 hB3 hB4 hB13 hT4 hidx e15
      go_wp2
      go_roundw
      case rel =>
        refine ⟨j + 1, by omega, by go_num, ?_, hB5⟩
        have := Hb4.out
        rw [← Hy.out, ← Hx.out, ← Hm.out] at this
        exact this
      case measure => simp [intOf]; omega
    · have hE : j = 18 := by omega
      subst hE
      have k0 : wr.cell? ⟨w.heap.size, 0, none⟩ = some (.int .i64 i) := (hBx.cell (p := ⟨w.heap.size, 0, none⟩) (by simp)).trans K.out.1
      have k2 : wr.cell? ⟨w.heap.size, 2, none⟩ = some (.slice B p.length cb) := (hBx.cell (p := ⟨w.heap.size, 2, none⟩) (by simp)).trans K.out.2.2
      have HSp := Lib.hid ((HBp.out.below hBwx).mono hBwx.size)
      have Hbd : Bld (w.heap.size + 1) (On.climbTo c d 18) wr.drew := Hb.out
      have hbs : (bytesOf (On.climbTo c d 18)).size ≤ 140737488355328 := by rw [bytesOf_size, On.climbTo_len]; omega
      obtain ⟨t, ht⟩ : ∃ t, bytesOf (On.climbTo c d 18) = t := ⟨_, rfl⟩
      have Hbt : Hid (t = ⟨(On.climbTo c d 18).toArray⟩) := Lib.hid (ht ▸ rfl)
      rw [ht] at hbs hr
      have hr2 : Hid (verifyB root (IntKind.i64.wrap (2 ^ h)) i t p = r) := Lib.hid (by rw [Hw.out]; exact hr.out)
      clear ht
      clear k1
      go_wp2_with fail
      go_region_held3 (fun w' => w'.cell? ⟨w.heap.size, 0, none⟩ = some (.int .i64 i) ∧ w'.cell? ⟨w.heap.size, 2, none⟩ = some (.slice B p.length cb))
        (go_keep)
        (first
          | (go_at_call 50; (with_reducible refine (bstring (w.heap.size + 1) _ t Hbt wr.drew Hbd).mono ?_); rintro e w5 ⟨rfl, hB5⟩; have k05 := (hB5.cell (p := ⟨w.heap.size, 0, none⟩) (by simp)).trans k0; have k25 := (hB5.cell (p := ⟨w.heap.size, 2, none⟩) (by simp)).trans k2; have hBw5 := hBwx.trans ((below_undrew hB5).mono (Nat.le_succ _)))
          | (go_at_call 49; (with_reducible refine (verify_at B cb p.length root (IntKind.i64.wrap (2 ^ h)) i t p r w5 rfl hr2.out ((HBp.out.below hBw5).mono hBw5.size) hbs).mono ?_); rintro e w6 ⟨rfl, hB6⟩; have k06 := (hB6.cell (p := ⟨w.heap.size, 0, none⟩) (by have := hBw5.size; have := hB6.size; have := Hbd.lt; have := hB5.size; simp; simp at *; omega)).trans k05; have k26 := (hB6.cell (p := ⟨w.heap.size, 2, none⟩) (by have := hBw5.size; have := Hbd.lt; have := hB5.size; simp; simp at *; omega)).trans k25))
      all_goals
        go_wp2_with fail
        go_ret
        exact ⟨rfl, bgo hBw5 hB6⟩
def sigV (i : Int) (A : Option Addr) (n ca : Nat) (B : Option Addr) (m cb : Nat) : Value := .agg #[.int .i64 i, .slice A n ca, .slice B m cb]
set_option maxRecDepth 100000 in
theorem over_bad (root : UInt64) (h : Int) (text : ByteArray) (i : Int) (A B : Option Addr) (ca cb n m : Nat) (hbad : ¬ (0 ≤ h ∧ h ≤ 8 ∧ n = 18)) (hn : n ≤ maxLen) (w : World) :
    Calls Tryd.prog 19 #[.int .u64 root.toNat, .int .i64 h, .string text, .agg #[.int .i64 i, .slice A n ca, .slice B m cb]] w fun e w' => e = .returned (.bool false) ∧ Below w.heap.size w w' := by
  unfold maxLen at hn
  by_cases h0 : 0 ≤ h
  · by_cases h8 : h ≤ 8
    · have hne : ((n : Int) != 18) = true := by simp; omega
      have hh' : ¬ ((8 : Int) < h) := by omega
      clear hbad
      go_enter Tryd.func19, Tryd.ntmps19
      go_wp2_with fail
      go_ret
      exact ⟨rfl, (Below.refl _ _).alloc (Nat.le_refl _) _⟩
    · clear hbad
      go_enter Tryd.func19, Tryd.ntmps19
      go_wp2_with fail
      go_ret
      exact ⟨rfl, (Below.refl _ _).alloc (Nat.le_refl _) _⟩
  · clear hbad
    go_enter Tryd.func19, Tryd.ntmps19
    go_wp2_with fail
    go_ret
    exact ⟨rfl, (Below.refl _ _).alloc (Nat.le_refl _) _⟩
theorem over_at (root : UInt64) (h : Int) (text : ByteArray) (d : UInt64) (hd : Hid (Dig.sum text.data.toList = d)) (ht : text.size ≤ maxLen) (i : Int) (A B : Option Addr) (ca cb n m : Nat) (c : List UInt64) (p : Forks) (hn : c.length = n) (hm : p.length = m) (hnl : n ≤ maxLen) (r : Bool)
    (hr : Hid (overB root h d i c p = r)) (w : World) (hT : OTabs w) (hA : Sl w w.heap.size 1 A n (u64V c)) (hBp : Sl w w.heap.size 2 B m (forkV p)) :
    Calls Tryd.prog 19 #[.int .u64 root.toNat, .int .i64 h, .string text, .agg #[.int .i64 i, .slice A n ca, .slice B m cb]] w fun e w' => e = .returned (.bool r) ∧ Below w.heap.size w w' := by
  subst hn hm
  rw [← hr.out]
  by_cases hok : 0 ≤ h ∧ h ≤ 8 ∧ c.length = 18
  · obtain ⟨h0, h8, h18⟩ := hok
    obtain ⟨k, rfl⟩ := Int.eq_ofNat_of_zero_le h0
    have e : overB root (k : Int) d i c p = verifyB root ((2 ^ k : Nat) : Int) i (bytesOf (On.climbTo c d 18)) p := by
      unfold overB
      rw [decide_eq_true (⟨h0, h8, h18⟩ : 0 ≤ (k : Int) ∧ (k : Int) ≤ 8 ∧ c.length = 18), Int.toNat_natCast, Bool.true_and]
    rw [e, h18]
    rw [h18] at hA
    exact over_ok root k (2 ^ k) (by omega) (Lib.hid rfl) text d hd ht i A B ca cb c p h18 _ (Lib.hid rfl) w hT hA hBp
  · have e : overB root h d i c p = false := by
      unfold overB
      rw [decide_eq_false hok, Bool.false_and]
    rw [e]
    exact over_bad root h text i A B ca cb c.length p.length hok hnl w
end Go.Proofs.YthgkjcofmkkdcaaDoor
