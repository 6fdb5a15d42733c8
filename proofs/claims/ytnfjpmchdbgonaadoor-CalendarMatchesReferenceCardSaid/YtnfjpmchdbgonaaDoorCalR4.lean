/- The walks of the reference of calendar, fourth part: number, Parse. -/
import Derived.Test.YtnfjpmchdbgonaaDoorCalR3
namespace Go.Proofs.YtnfjpmchdbgonaaDoor
open Go.RowKit Go.Sort
set_option linter.unusedVariables false
def nv (l : List UInt8) (a : Nat) : Nat → Nat
  | 0 => 0
  | k + 1 => 10 * nv l a k + dv (l.getD (a + k) 0)
def allD (l : List UInt8) (a : Nat) : Nat → Bool
  | 0 => true
  | k + 1 => allD l a k && isD (l.getD (a + k) 0)
theorem allD_at (l : List UInt8) (a : Nat) : ∀ c, allD l a c = true → ∀ q, q < c → isD (l.getD (a + q) 0) = true
  | 0, _, q, hq => absurd hq (Nat.not_lt_zero q)
  | c + 1, h, q, hq => by
    simp only [allD, Bool.and_eq_true] at h
    rcases Nat.lt_succ_iff_lt_or_eq.1 hq with h' | h'
    · exact allD_at l a c h.1 q h'
    · rw [h']; exact h.2
theorem allD_no (l : List UInt8) (a c k : Nat) (hk : k < c) (h : isD (l.getD (a + k) 0) = false) : allD l a c = false := by
  cases hc : allD l a c with
  | false => rfl
  | true => rw [allD_at l a c hc k hk] at h; cases h
def numN (l : List UInt8) (a c : Nat) : Int := if allD l a c then (nv l a c : Int) else 0
structure NumRel (l : List UInt8) (a c : Nat) (n i : Value) : Prop where
  out : ∃ k q V : Nat, q = a + k ∧ k ≤ c ∧ i = .int .i64 (q : Int) ∧ n = .int .i64 (V : Int) ∧ V = nv l a k ∧ V < 10 ^ k ∧ allD l a k = true
set_option maxRecDepth 100000 in
theorem rnumber_any (s : ByteArray) (a c : Nat) (hc : a + c ≤ s.size) (h4 : c ≤ 4) (hs : s.size ≤ 1000) (ai bi N : Int) (b : Bool) (hai : ai = a) (hbi : bi = ((a + c : Nat) : Int)) (hN : numN s.data.toList a c = N) (hb : allD s.data.toList a c = b) (w : World) :
    Calls Tryd.prog 36 #[.string s, .int .i64 ai, .int .i64 bi] w fun e w' => e = .returned (.tuple #[.int .i64 N, .bool b]) ∧ w = w' := by
  have hl : ∀ k (hk : k < c), s.data.toList.getD (a + k) 0 = s[a + k]'(by omega) := fun k hk => getD_byte s (a + k) (by omega)
  obtain ⟨l, hll⟩ : ∃ l, l = s.data.toList := ⟨_, rfl⟩
  rw [← hll] at hl hN hb
  have Hl := Lib.hid hl
  have HN := Lib.hid (And.intro hN hb)
  obtain ⟨d, hd⟩ : ∃ d : Nat, d = a + c := ⟨_, rfl⟩
  rw [← hd] at hbi
  subst hai hbi
  have hda : a ≤ d := by omega
  have hds : d ≤ s.size := by omega
  have hdc : d ≤ a + c := by omega
  have hcd : a + c ≤ d := by omega
  clear hl hN hb hll hd
  try clear hbi
  go_enter Tryd.func36, Tryd.ntmps36
  go_wp2_with fail
  go_loop [8, 9] (fun n i => NumRel l a c n i) (fun _ i => d - (intOf i).toNat)
  case atStart => exact ⟨⟨0, a, 0, rfl, by omega, rfl, rfl, rfl, by decide, rfl⟩⟩
  case round =>
    obtain ⟨k, q, V, hq, hk, rfl, rfl, hV, hV10, hall⟩ := hrel.out
    have Hq := Lib.hid hq
    have hq1 : q ≤ a + k := by omega
    have hq2 : a + k ≤ q := by omega
    clear hq
    have hp : 10 ^ k ≤ 10 ^ 4 := Nat.pow_le_pow_right (by omega) (by omega)
    have hV4 : V < 10000 := by have : (10 : Nat) ^ 4 = 10000 := rfl; omega
    have H := Lib.hid (And.intro hV (And.intro hV10 hall))
    clear hV hV10 hall hp
    by_cases hlt : k < c
    · have hix : q < s.size := by omega
      have hlk : l.getD (a + k) 0 = s[q] := by
        have h0 := Hl.out k hlt
        have h1 := Hq.out
        subst h1
        exact h0
      have hlt' : (q : Int) < (d : Int) := by omega
      by_cases hd : 48 ≤ (s[q]).toNat ∧ (s[q]).toNat ≤ 57
      · have hd1 : (48 : Int) ≤ ((s[q]).toNat : Int) := by omega
        have hd2 : ((s[q]).toNat : Int) ≤ 57 := by omega
        have hD : isD (l.getD (a + k) 0) = true := by rw [hlk]; exact decide_eq_true hd
        have hdv : dv (l.getD (a + k) 0) = (s[q]).toNat - 48 := by rw [hlk]; rfl
        have HD := Lib.hid (And.intro hD hdv)
        clear hD hdv hlk hd
        go_wp2_with fail
        go_round
        case rel =>
          obtain ⟨e1, e2, e3⟩ := H.out
          obtain ⟨e4, e5⟩ := HD.out
          refine ⟨_, _, _, _, ?_, rfl, rfl, rfl, rfl⟩
          refine ⟨⟨k + 1, q + 1, 10 * V + ((s[q]).toNat - 48), by omega, by omega, ?_, ?_, ?_, ?_, ?_⟩⟩
          · congr 1
          · congr 1
            omega
          · rw [nv, e5, ← e1]
          · rw [Nat.pow_succ]; omega
          · rw [allD, e3, e4]; rfl
        case measure => simp [intOf]; omega
      · have hD : isD (l.getD (a + k) 0) = false := by rw [hlk]; exact decide_eq_false hd
        have hno := allD_no l a c k hlt hD
        have hb : b = false := by rw [← HN.out.2]; exact hno
        have hN0 : N = 0 := by rw [← HN.out.1]; unfold numN; rw [hno]; rfl
        subst hb hN0
        clear hD hno hlk
        by_cases hlo : (s[q]).toNat < 48
        · have hd1 : ((s[q]).toNat : Int) < 48 := by omega
          clear hd
          go_wp2_with fail
          go_ret2
          exact ⟨rfl, rfl⟩
        · have hd1 : ¬ (((s[q]).toNat : Int) < 48) := by omega
          have hd2 : (57 : Int) < ((s[q]).toNat : Int) := by omega
          clear hd
          go_wp2_with fail
          go_ret2
          exact ⟨rfl, rfl⟩
    · obtain rfl : k = c := by omega
      obtain ⟨e1, e2, e3⟩ := H.out
      have hb : b = true := by rw [← HN.out.2]; exact e3
      have hN0 : N = (V : Int) := by rw [← HN.out.1, e1]; unfold numN; rw [e3]; rfl
      subst hb hN0
      clear e1 e2 e3
      go_wp2_with fail
      go_ret2
      exact ⟨rfl, rfl⟩
theorem okF_parts (l : List UInt8) (h : l.length = 10) : okF l = (l.getD 4 0 == 45 && (l.getD 7 0 == 45 && (allD l 0 4 && (allD l 5 2 && allD l 8 2)))) := by
  obtain ⟨c0, c1, c2, c3, c4, c5, c6, c7, c8, c9, rfl⟩ := ten l h
  have e : okF [c0, c1, c2, c3, c4, c5, c6, c7, c8, c9] = (isD c0 && (isD c1 && (isD c2 && (isD c3 && (c4 == 45 && (isD c5 && (isD c6 && (c7 == 45 && (isD c8 && isD c9))))))))) := by
    simp [okF, List.range, List.range.loop, okAt]
  rw [e]
  show _ = (c4 == 45 && (c7 == 45 && ((((true && isD c0) && isD c1) && isD c2) && isD c3 && (((true && isD c5) && isD c6) && ((true && isD c8) && isD c9)))))
  cases isD c0 <;> cases isD c1 <;> cases isD c2 <;> cases isD c3 <;> cases (c4 == 45) <;> cases isD c5 <;> cases isD c6 <;> cases (c7 == 45) <;> cases isD c8 <;> cases isD c9 <;> rfl
theorem yOf_nv (l : List UInt8) : yOf l = nv l 0 4 := by simp [yOf, nv]; omega
theorem mOf_nv (l : List UInt8) : mOf l = nv l 5 2 := by simp [mOf, nv]; omega
theorem dOf_nv (l : List UInt8) : dOf l = nv l 8 2 := by simp [dOf, nv]; omega
set_option maxRecDepth 100000 in
theorem rparse_at (s : ByteArray) (i e : Int) (hs : s.size ≤ 1000) (hi : parI s.data.toList = i) (he : parE s.data.toList = e) (w : World) : Calls Tryd.prog 28 #[.string s] w fun r w' => r = .returned (.tuple #[.int .i64 i, .int .i64 e]) ∧ w = w' := by
  by_cases h10 : s.size = 10
  · have hlen : s.data.toList.length = 10 := by rw [Array.length_toList]; exact h10
    have hok := okF_parts _ hlen
    have g4 := getD_byte s 4 (by omega)
    have g7 := getD_byte s 7 (by omega)
    have hne : ((s.size : Int) != 10) = false := by rw [h10]; rfl
    rw [g4, g7] at hok
    have hbad : okF s.data.toList = false → i = 0 ∧ e = 12 := fun h => by
      unfold parI at hi
      unfold parE at he
      rw [h] at hi he
      exact ⟨hi.symm, he.symm⟩
    by_cases b4 : s[4] = 45
    · have t4 : (((s[4]).toNat : Int) != 45) = false := by rw [b4]; rfl
      by_cases b7 : s[7] = 45
      · have t7 : (((s[7]).toNat : Int) != 45) = false := by rw [b7]; rfl
        rw [b4, b7] at hok
        obtain ⟨x1, hx1⟩ : ∃ b, allD s.data.toList 0 4 = b := ⟨_, rfl⟩
        obtain ⟨x2, hx2⟩ : ∃ b, allD s.data.toList 5 2 = b := ⟨_, rfl⟩
        obtain ⟨x3, hx3⟩ : ∃ b, allD s.data.toList 8 2 = b := ⟨_, rfl⟩
        obtain ⟨n1, hn1⟩ : ∃ n, numN s.data.toList 0 4 = n := ⟨_, rfl⟩
        obtain ⟨n2, hn2⟩ : ∃ n, numN s.data.toList 5 2 = n := ⟨_, rfl⟩
        obtain ⟨n3, hn3⟩ : ∃ n, numN s.data.toList 8 2 = n := ⟨_, rfl⟩
        rw [hx1, hx2, hx3] at hok
        have F := Lib.hid (And.intro hx1 (And.intro hx2 (And.intro hx3 (And.intro hn1 (And.intro hn2 hn3)))))
        have Hok := Lib.hid hok
        have Hi := Lib.hid (And.intro hi (And.intro he hbad))
        clear hx1 hx2 hx3 hn1 hn2 hn3 hok hi he hbad g4 g7 b4 b7 hlen
        go_enter Tryd.func28, Tryd.ntmps28
        go_wp2_with fail
        refine (rnumber_any s 0 4 (by omega) (by omega) hs 0 4 n1 x1 rfl rfl F.out.2.2.2.1 F.out.1 _).mono ?_
        rintro r w' ⟨rfl, rfl⟩
        go_wp2_with fail
        refine (rnumber_any s 5 2 (by omega) (by omega) hs 5 7 n2 x2 rfl rfl F.out.2.2.2.2.1 F.out.2.1 _).mono ?_
        rintro r w' ⟨rfl, rfl⟩
        go_wp2_with fail
        refine (rnumber_any s 8 2 (by omega) (by omega) hs 8 10 n3 x3 rfl rfl F.out.2.2.2.2.2 F.out.2.2.1 _).mono ?_
        rintro r w' ⟨rfl, rfl⟩
        cases x1 with
        | false =>
          obtain ⟨rfl, rfl⟩ := Hi.out.2.2 (by rw [Hok.out]; rfl)
          go_wp2_with fail
          go_ret2
          exact ⟨rfl, rfl⟩
        | true =>
          cases x2 with
          | false =>
            obtain ⟨rfl, rfl⟩ := Hi.out.2.2 (by rw [Hok.out]; rfl)
            go_wp2_with fail
            go_ret2
            exact ⟨rfl, rfl⟩
          | true =>
            cases x3 with
            | false =>
              obtain ⟨rfl, rfl⟩ := Hi.out.2.2 (by rw [Hok.out]; rfl)
              go_wp2_with fail
              go_ret2
              exact ⟨rfl, rfl⟩
            | true =>
              have ok : okF s.data.toList = true := by rw [Hok.out]; rfl
              have e1 : ((yOf s.data.toList : Nat) : Int) = n1 := by rw [← F.out.2.2.2.1, yOf_nv]; unfold numN; rw [F.out.1]; rfl
              have e2 : ((mOf s.data.toList : Nat) : Int) = n2 := by rw [← F.out.2.2.2.2.1, mOf_nv]; unfold numN; rw [F.out.2.1]; rfl
              have e3 : ((dOf s.data.toList : Nat) : Int) = n3 := by rw [← F.out.2.2.2.2.2, dOf_nv]; unfold numN; rw [F.out.2.2.1]; rfl
              have hb3 := (text_back10 _ ok).2.2.2
              have hi' : dayI n1 n2 n3 = i := by rw [← Hi.out.1, ← e1, ← e2, ← e3]; unfold parI; rw [ok]; rfl
              have he' : dayE n1 n2 n3 = e := by rw [← Hi.out.2.1, ← e1, ← e2, ← e3]; unfold parE; rw [ok]; rfl
              have HI := Lib.hid (And.intro hi' (And.intro he' (show -9223372036854775808 ≤ n3 ∧ n3 ≤ 9223372036854775807 by omega)))
              clear ok e1 e2 e3 hb3 hi' he'
              go_wp2_with fail
              refine (rday_at n1 n2 n3 i e HI.out.1 HI.out.2.1 _ HI.out.2.2).mono ?_
              rintro r w' ⟨rfl, rfl⟩
              go_wp2_with fail
              go_ret2
              exact ⟨rfl, rfl⟩
      · have t7 : (((s[7]).toNat : Int) != 45) = true := by
          simp only [bne_iff_ne, ne_eq]
          exact fun e => b7 (UInt8.toNat_inj.1 (by have : (45 : UInt8).toNat = 45 := rfl; omega))
        have hf : okF s.data.toList = false := by
          rw [hok, beq_eq_false_iff_ne.2 b7]; simp
        obtain ⟨rfl, rfl⟩ := hbad hf
        clear hok hbad hf hi he g4 g7 b4 b7 hlen
        go_enter Tryd.func28, Tryd.ntmps28
        go_wp2_with fail
        go_ret2
        exact ⟨rfl, rfl⟩
    · have t4 : (((s[4]).toNat : Int) != 45) = true := by
        simp only [bne_iff_ne, ne_eq]
        exact fun e => b4 (UInt8.toNat_inj.1 (by have : (45 : UInt8).toNat = 45 := rfl; omega))
      have hf : okF s.data.toList = false := by
        rw [hok, beq_eq_false_iff_ne.2 b4]; rfl
      obtain ⟨rfl, rfl⟩ := hbad hf
      clear hok hbad hf hi he g4 g7 b4 hlen
      go_enter Tryd.func28, Tryd.ntmps28
      go_wp2_with fail
      go_ret2
      exact ⟨rfl, rfl⟩
  · have hne : ((s.size : Int) != 10) = true := by simp; omega
    have hf : okF s.data.toList = false := by
      unfold okF
      rw [decide_eq_false (by rw [Array.length_toList]; exact h10)]
      rfl
    have hi0 : i = 0 := by rw [← hi]; unfold parI; rw [hf]; rfl
    have he0 : e = 12 := by rw [← he]; unfold parE; rw [hf]; rfl
    subst hi0 he0
    clear hf hi he h10
    go_enter Tryd.func28, Tryd.ntmps28
    go_wp2_with fail
    go_ret2
    exact ⟨rfl, rfl⟩
end Go.Proofs.YtnfjpmchdbgonaaDoor
