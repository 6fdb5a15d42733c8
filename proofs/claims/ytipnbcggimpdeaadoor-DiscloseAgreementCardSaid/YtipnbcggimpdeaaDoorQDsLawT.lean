/- The walk of DiscloseTexts. -/
import Derived.Test.YtipnbcggimpdeaaDoorQ24
namespace Go.Proofs.YtipnbcggimpdeaaDoor
open Go.RowKit Go.Shelf
set_option linter.unusedVariables false
set_option linter.unusedSimpArgs false
set_option maxRecDepth 100000
theorem cut_word (s : UInt8) : ∀ (l1 l2 r1 r2 : List UInt8), s ∉ l1 → s ∉ l2 → l1 ++ s :: r1 = l2 ++ s :: r2 → l1 = l2 ∧ r1 = r2
  | [], [], r1, r2, _, _, h => ⟨rfl, by simpa using h⟩
  | [], x :: l2, r1, r2, _, h2, h => by
    injection h with h _
    exact absurd (h ▸ List.mem_cons_self) h2
  | x :: l1, [], r1, r2, h1, _, h => by
    injection h with h _
    exact absurd (h ▸ List.mem_cons_self) h1
  | x :: l1, y :: l2, r1, r2, h1, h2, h => by
    injection h with he h
    have := cut_word s l1 l2 r1 r2 (fun k => h1 (List.mem_cons_of_mem _ k)) (fun k => h2 (List.mem_cons_of_mem _ k)) h
    exact ⟨by rw [he, this.1], this.2⟩
theorem join_two (a b : List UInt8) (l : List (List UInt8)) : Lib.join (a :: b :: l) [32] = a ++ 32 :: Lib.join (b :: l) [32] := by
  simp [Lib.join, List.intercalate]
theorem join_one (a : List UInt8) : Lib.join [a] [32] = a := by simp [Lib.join, List.intercalate]
/-- Words without blanks can be read off their line. -/
theorem join_inj : ∀ (l m : List (List UInt8)), l ≠ [] → m ≠ [] → (∀ a ∈ l, (32 : UInt8) ∉ a) → (∀ a ∈ m, (32 : UInt8) ∉ a) → Lib.join l [32] = Lib.join m [32] → l = m
  | [], _, h, _, _, _, _ => absurd rfl h
  | _, [], _, h, _, _, _ => absurd rfl h
  | [a], [b], _, _, _, _, h => by rw [join_one, join_one] at h; rw [h]
  | [a], b :: c :: m, _, _, h1, _, h => by
    rw [join_one, join_two] at h
    exact absurd (by rw [h]; simp) (h1 a List.mem_cons_self)
  | a :: c :: l, [b], _, _, _, h2, h => by
    rw [join_one, join_two] at h
    exact absurd (by rw [← h]; simp) (h2 b List.mem_cons_self)
  | a :: c :: l, b :: d :: m, _, _, h1, h2, h => by
    rw [join_two, join_two] at h
    obtain ⟨e1, e2⟩ := cut_word 32 a b _ _ (h1 a List.mem_cons_self) (h2 b List.mem_cons_self) h
    have := join_inj (c :: l) (d :: m) (by simp) (by simp) (fun x hx => h1 x (List.mem_cons_of_mem _ hx)) (fun x hx => h2 x (List.mem_cons_of_mem _ hx)) e2
    rw [e1, this]
theorem itoa_word (n : Int) : (32 : UInt8) ∉ (itoaB n).data.toList := by
  intro h
  have h : (32 : UInt8) ∈ Lib.itoa n := by simpa [itoaB] using h
  rcases itoa_mem n 32 h with h | h
  · exact absurd h (by decide)
  · exact absurd h.1 (by decide)
theorem hexd_ne (n : Nat) (h : n < 16) : Dig.hexd n ≠ 32 := by
  have key : ∀ k : Fin 16, Dig.hexd k.val ≠ 32 := by decide
  exact key ⟨n, h⟩
theorem root_word (d : UInt64) : (32 : UInt8) ∉ (textB d).data.toList := by
  intro h
  have h : (32 : UInt8) ∈ Dig.text d := by simpa [textB] using h
  unfold Dig.text at h
  simp only [List.mem_cons, List.not_mem_nil, or_false] at h
  have hd : ∀ j, ¬ (32 : UInt8) = Dig.dig d j := fun j e => by
    unfold Dig.dig at e
    exact hexd_ne _ (Nat.mod_lt _ (by decide)) e.symm
  rcases h with h | h | h | h | h | h | h | h | h | h | h | h | h | h | h | h <;> exact hd _ h
theorem bytes_eq {a b : ByteArray} (h : a.data.toList = b.data.toList) : a = b := by
  obtain ⟨⟨l⟩⟩ := a
  obtain ⟨⟨m⟩⟩ := b
  have : l = m := h
  rw [this]
theorem itoaB_inj {m n : Int} (h : itoaB m = itoaB n) : m = n := by
  refine itoa_inj ?_
  have := congrArg (fun b : ByteArray => b.data.toList) h
  simpa [itoaB] using this
/-- Texts of payslips are equal exactly if what they say is. -/
theorem dtext_inj (p p' : ByteArray) (m m' : Int) (r r' : UInt64) (xs ys : List Int) (hp : (32 : UInt8) ∉ p.data.toList) (hp' : (32 : UInt8) ∉ p'.data.toList) :
    dText p m r xs = dText p' m' r' ys ↔ p = p' ∧ m = m' ∧ r = r' ∧ xs = ys := by
  constructor
  · intro h
    have h1 : Lib.join ((dList p m r xs).map (·.data.toList)) [32] = Lib.join ((dList p' m' r' ys).map (·.data.toList)) [32] := by
      have := congrArg (fun b : ByteArray => b.data.toList) h
      simpa [dText, joinS] using this
    have hw : ∀ (p : ByteArray) (m : Int) (r : UInt64) (xs : List Int), (32 : UInt8) ∉ p.data.toList → ∀ a ∈ (dList p m r xs).map (·.data.toList), (32 : UInt8) ∉ a := by
      intro p m r xs hp a ha
      obtain ⟨b, hb, rfl⟩ := List.mem_map.1 ha
      rcases List.mem_append.1 hb with hb | hb
      · simp only [dHead, List.mem_cons, List.not_mem_nil, or_false] at hb
        rcases hb with rfl | rfl | rfl | rfl
        · decide
        · exact hp
        · exact itoa_word m
        · exact root_word r
      · obtain ⟨x, _, rfl⟩ := List.mem_map.1 hb
        exact itoa_word x
    have h2 := join_inj _ _ (by simp [dList, dHead]) (by simp [dList, dHead]) (hw p m r xs hp) (hw p' m' r' ys hp') h1
    have h3 : dList p m r xs = dList p' m' r' ys := List.map_inj_right (fun a b h => bytes_eq h) |>.1 h2
    simp only [dList, dHead, List.cons_append, List.nil_append, List.cons.injEq] at h3
    obtain ⟨_, e1, e2, e3, e4⟩ := h3
    refine ⟨e1, itoaB_inj e2, ?_, List.map_inj_right (fun a b h => itoaB_inj h) |>.1 e4⟩
    have := congrArg (fun b : ByteArray => b.data.toList) e3
    exact Dig.text_inj _ _ (by simpa [textB] using this)
  · rintro ⟨rfl, rfl, rfl, rfl⟩
    rfl
theorem name_word {s : ByteArray} (h : isNameB s = true) : (32 : UInt8) ∉ s.data.toList := by
  intro hm
  have := (of_decide_eq_true h).2.2.2.2 32 hm
  exact absurd this (by decide)
theorem getD_all {xs ys : List Int} {n : Nat} (h1 : xs.length = n) (h2 : ys.length = n) (h : ∀ j, j < n → xs.getD j 0 = ys.getD j 0) : xs = ys := by
  apply List.ext_getElem (by omega)
  intro j ha hb
  have := h j (by omega)
  simpa [List.getD, ha, hb] using this
set_option maxHeartbeats 4000000 in
theorem ints_any (A B : Option Addr) (ca cb n m : Nat) (xs ys : List Int) (r : Bool) (hn : xs.length = n) (hm : ys.length = m) (hr : Hid (decide (xs = ys) = r)) (hnl : n ≤ 1000000) (hml : m ≤ 1000000) (w : World) (hA : Sl w w.heap.size 1 A n (intV xs)) (hB : Sl w w.heap.size 1 B m (intV ys)) :
    Calls Tryd.prog 12 #[.slice A n ca, .slice B m cb] w fun e w' => e = .returned (.bool r) ∧ Below w.heap.size w w' := by
  have HA := Lib.hid hA
  have HB := Lib.hid hB
  have Hn := Lib.hid (And.intro hn hm)
  clear hA hB hn hm
  by_cases hnm : n = m
  · subst hnm
    have hne : ((n : Int) != (n : Int)) = false := by simp
    go_enter Tryd.func12, Tryd.ntmps12
    go_wp2_with fail
    clear hne
    go_loopw [5] (fun i wr => ∃ k : Nat, k ≤ n ∧ i = .int .i64 (k : Int) ∧ (∀ j, j < k → xs.getD j 0 = ys.getD j 0) ∧ Below w.heap.size w wr) (fun i _ => n - (intOf i).toNat)
    case atStart => exact ⟨0, Nat.zero_le _, rfl, fun j hj => absurd hj (Nat.not_lt_zero j), Below.refl _ _⟩
    case round =>
      obtain ⟨k, hk, rfl, hall, hBw⟩ := hrel
      have Hall := Lib.hid hall
      clear hall
      by_cases hlt : k < n
      · have hlt' : (k : Int) < (n : Int) := by omega
        obtain ⟨b1, o1, rfl, hb1, hc1⟩ := HA.out.2 (by omega)
        obtain ⟨b2, o2, rfl, hb2, hc2⟩ := HB.out.2 (by omega)
        have y : wr.cell? ⟨b1, o1 + k, none⟩ = some (.int .i64 (xs.getD k 0)) := (hBw.cell (p := ⟨b1, o1 + k, none⟩) hb1).trans (hc1 _ _ (intV_get xs k (by rw [Hn.out.1]; exact hlt)))
        have z : wr.cell? ⟨b2, o2 + k, none⟩ = some (.int .i64 (ys.getD k 0)) := (hBw.cell (p := ⟨b2, o2 + k, none⟩) hb2).trans (hc2 _ _ (intV_get ys k (by rw [Hn.out.2]; exact hlt)))
        by_cases he : xs.getD k 0 = ys.getD k 0
        · have Hy : Hid (∀ j, j < k + 1 → xs.getD j 0 = ys.getD j 0) := Lib.hid fun j hj => by
            rcases Nat.lt_succ_iff_lt_or_eq.1 hj with h | h
            · exact Hall.out j h
            · rw [h]; exact he
          rw [← he] at z
          obtain ⟨c, hc⟩ : ∃ c, xs.getD k 0 = c := ⟨_, rfl⟩
          rw [hc] at y z
          have hne : (c != c) = false := by simp
          clear hc he hc1 hc2
          go_wp2_with fail
          go_quiet (fail)
          have hB2 := below_drewN hBw nq
          obtain ⟨u1, hu1⟩ : ∃ u, u = wr.drewN nq := ⟨_, rfl⟩
          rw [← hu1] at hB2 ⊢
          clear hu1 y z hne
          go_wp2
          go_roundw
          case rel => exact ⟨k + 1, by omega, by go_num, Hy.out, hB2⟩
          case measure => simp [intOf]; omega
        · have hF : Hid (r = false) := Lib.hid (by rw [← hr.out]; exact decide_eq_false fun e => he (by rw [e]))
          obtain ⟨c, hc⟩ : ∃ c, xs.getD k 0 = c := ⟨_, rfl⟩
          obtain ⟨d, hd⟩ : ∃ c, ys.getD k 0 = c := ⟨_, rfl⟩
          rw [hc] at y he
          rw [hd] at z he
          have hne : (c != d) = true := bne_iff_ne.2 he
          clear hc hd he hc1 hc2
          go_wp2_with fail
          go_quiet (fail)
          have hB2 := below_drewN hBw nq
          obtain ⟨u1, hu1⟩ : ∃ u, u = wr.drewN nq := ⟨_, rfl⟩
          rw [← hu1] at hB2 ⊢
          clear hu1 y z hne
          go_wp2
          go_ret
          exact ⟨by rw [hF.out] <;> rfl, hB2⟩
      · obtain rfl : n = k := by omega
        have hF : Hid (r = true) := Lib.hid (by rw [← hr.out]; exact decide_eq_true (getD_all Hn.out.1 Hn.out.2 Hall.out))
        go_wp2
        go_ret
        exact ⟨by rw [hF.out] <;> rfl, hBw⟩
  · have hne : ((n : Int) != (m : Int)) = true := bne_iff_ne.2 (by omega)
    have hF : Hid (r = false) := Lib.hid (by rw [← hr.out]; exact decide_eq_false fun e => hnm (by rw [← Hn.out.1, ← Hn.out.2, e]))
    go_enter Tryd.func12, Tryd.ntmps12
    go_wp2_with fail
    go_ret
    exact ⟨by rw [hF.out] <;> rfl, Below.refl _ _⟩
set_option maxHeartbeats 4000000 in
theorem name12_any (s : ByteArray) (r : Bool) (hr : Hid (isNameB s = r)) (w : World) (hs : s.size ≤ maxLen) : Calls Tryd.prog 14 #[.string s] w fun e w' => e = .returned (.bool r) ∧ w = w' := by
  unfold maxLen at hs
  go_enter Tryd.func14, Tryd.ntmps14
  go_wp2_with fail
  go_loop [3] (fun i => ∃ k : Nat, k ≤ s.size ∧ i = .int .i64 (k : Int) ∧ (∀ j (h : j < s.size), j < k → okC s[j] = true) ∧ (∀ h : 0 < s.size, 0 < k → 97 ≤ s[0].toNat ∧ s[0].toNat ≤ 122)) (fun i => s.size - (intOf i).toNat)
  case atStart => exact ⟨0, Nat.zero_le _, rfl, fun j h hj => absurd hj (Nat.not_lt_zero j), fun h hk => absurd hk (Nat.lt_irrefl 0)⟩
  case round =>
    obtain ⟨k, hk, rfl, hok, hfst⟩ := hrel
    have Hok := Lib.hid hok
    have Hf := Lib.hid hfst
    clear hok hfst
    by_cases hlt : k < s.size
    · have hlt' : (k : Int) < (s.size : Int) := by omega
      have Hy : Hid (okC s[k] = true → ∀ j (h : j < s.size), j < k + 1 → okC s[j] = true) := Lib.hid (fun hc j h hj => by
        by_cases e : j < k
        · exact Hok.out j h e
        · obtain rfl : j = k := by omega
          exact hc)
      have Hf2 : Hid ((k = 0 → 97 ≤ s[k].toNat ∧ s[k].toNat ≤ 122) → ∀ h : 0 < s.size, 0 < k + 1 → 97 ≤ s[0].toNat ∧ s[0].toNat ≤ 122) := Lib.hid (fun hc h _ => by
        by_cases e : k = 0
        · subst e; exact hc rfl
        · exact Hf.out h (by omega))
      have Hno : Hid (okC s[k] = false → r = false) := Lib.hid (fun hc => by rw [← hr.out]; exact name_no hlt hc)
      have Hno0 : Hid (k = 0 → ¬ (97 ≤ s[k].toNat ∧ s[k].toNat ≤ 122) → r = false) := Lib.hid (fun e hc => by
        subst e
        rw [← hr.out]
        exact decide_eq_false (fun h => hc ⟨by rw [← name_head s hlt]; exact h.2.2.1, by rw [← name_head s hlt]; exact h.2.2.2.1⟩))
      obtain ⟨c, hce⟩ : ∃ c, s[k] = c := ⟨_, rfl⟩
      rw [hce] at Hy Hf2 Hno Hno0
      by_cases q1 : 97 ≤ c.toNat ∧ c.toNat ≤ 122
      · have q1' : ¬ (c.toNat : Int) < 97 := by omega
        have q2' : ¬ 122 < (c.toNat : Int) := by omega
        have HR := Lib.hid (And.intro (Hy.out (decide_eq_true (.inl q1))) (Hf2.out (fun _ => q1)))
        go_wp2
        go_round
        case rel => exact ⟨k + 1, by omega, by go_num, HR.out.1, HR.out.2⟩
        case measure => simp [intOf]; omega
      · by_cases hk0 : k = 0
        · have hF := Lib.hid (Hno0.out hk0 q1)
          have hk0' : ((k : Int) == 0) = true := by simp [hk0]
          by_cases p1 : c.toNat < 97
          · have p1' : (c.toNat : Int) < 97 := by omega
            clear q1 hk0
            go_wp2
            go_ret
            exact ⟨by rw [hF.out] <;> rfl, rfl⟩
          · have p1' : ¬ (c.toNat : Int) < 97 := by omega
            have p2' : 122 < (c.toNat : Int) := by omega
            clear q1 hk0
            go_wp2
            go_ret
            exact ⟨by rw [hF.out] <;> rfl, rfl⟩
        · have hk0' : ((k : Int) == 0) = false := by simp [hk0]
          by_cases q2 : 48 ≤ c.toNat ∧ c.toNat ≤ 57
          · have p1' : (c.toNat : Int) < 97 := by omega
            have p2' : ¬ (c.toNat : Int) < 48 := by omega
            have p3' : ¬ 57 < (c.toNat : Int) := by omega
            have HR := Lib.hid (And.intro (Hy.out (decide_eq_true (.inr (.inl q2)))) (Hf2.out (fun e => absurd e hk0)))
            clear q1
            go_wp2
            go_round
            case rel => exact ⟨k + 1, by omega, by go_num, HR.out.1, HR.out.2⟩
            case measure => simp [intOf]; omega
          · by_cases q3 : c.toNat = 95
            · have p1' : (c.toNat : Int) < 97 := by omega
              have p2' : ¬ (c.toNat : Int) < 48 := by omega
              have p3' : 57 < (c.toNat : Int) := by omega
              have p4 : ((c.toNat : Int) == 95) = true := by simp; omega
              have p4' : ((c.toNat : Int) != 95) = false := by simp; omega
              have HR := Lib.hid (And.intro (Hy.out (decide_eq_true (.inr (.inr q3)))) (Hf2.out (fun e => absurd e hk0)))
              clear q1
              go_wp2
              go_round
              case rel => exact ⟨k + 1, by omega, by go_num, HR.out.1, HR.out.2⟩
              case measure => simp [intOf]; omega
            · have hF := Lib.hid (Hno.out (decide_eq_false (fun h => h.elim q1 (fun h => h.elim q2 q3))))
              have p4 : ((c.toNat : Int) == 95) = false := by simp; omega
              have p4' : ((c.toNat : Int) != 95) = true := by simp; omega
              by_cases p1 : c.toNat < 97
              · have p1' : (c.toNat : Int) < 97 := by omega
                by_cases p2 : c.toNat < 48
                · have p2' : (c.toNat : Int) < 48 := by omega
                  clear q1 q2 q3
                  go_wp2
                  go_ret
                  exact ⟨by rw [hF.out] <;> rfl, rfl⟩
                · have p2' : ¬ (c.toNat : Int) < 48 := by omega
                  have p3' : 57 < (c.toNat : Int) := by omega
                  clear q1 q2 q3
                  go_wp2
                  go_ret
                  exact ⟨by rw [hF.out] <;> rfl, rfl⟩
              · have p1' : ¬ (c.toNat : Int) < 97 := by omega
                have p2' : ¬ (c.toNat : Int) < 48 := by omega
                have p3' : 57 < (c.toNat : Int) := by omega
                have p5 : 122 < (c.toNat : Int) := by omega
                clear q1 q2 q3
                go_wp2
                go_ret
                exact ⟨by rw [hF.out] <;> rfl, rfl⟩
    · obtain rfl : k = s.size := by omega
      by_cases h0 : 1 ≤ s.size
      · have h0' : (1 : Int) ≤ (s.size : Int) := by omega
        by_cases h16 : s.size ≤ 16
        · have h16' : (s.size : Int) ≤ 16 := by omega
          have hF : Hid (r = true) := Lib.hid (by
            rw [← hr.out]
            have := Hf.out h0 h0
            exact name_yes h0 h16 this.1 this.2 (fun j h => Hok.out j h h))
          go_wp2
          go_ret
          exact ⟨by rw [hF.out] <;> rfl, rfl⟩
        · have h16' : decide ((s.size : Int) ≤ 16) = false := decide_eq_false (by omega)
          have hF : Hid (r = false) := Lib.hid (by rw [← hr.out]; exact decide_eq_false (fun h => h16 h.2.1))
          go_wp2
          go_ret
          exact ⟨by rw [hF.out] <;> rfl, rfl⟩
      · have h0' : decide ((1 : Int) ≤ (s.size : Int)) = false := decide_eq_false (by omega)
        have hF : Hid (r = false) := Lib.hid (by rw [← hr.out]; exact decide_eq_false (fun h => h0 h.1))
        go_wp2
        go_ret
        exact ⟨by rw [hF.out] <;> rfl, rfl⟩
theorem tl_eq {a b : ByteArray} : (a.toList == b.toList) = decide (a = b) := by
  by_cases h : a = b
  · subst h; simp
  · rw [decide_eq_false h]
    refine beq_eq_false_iff_ne.2 fun e => h ?_
    rw [ByteArray.toList_eq, ByteArray.toList_eq] at e
    exact WideShapes.bytes_inj e
theorem u64_beq36 (a b : UInt64) : (((a.toNat : Int)) == ((b.toNat : Int))) = decide (a = b) := by
  by_cases h : a = b
  · subst h; simp
  · rw [decide_eq_false h]
    exact beq_eq_false_iff_ne.2 fun e => h (UInt64.toNat_inj.1 (by omega))
set_option maxHeartbeats 8000000 in
theorem discloseTexts_walk (p : ByteArray) (m s2 : Int) (A : Option Addr) (ca : Nat) (xs : List Int) (p2 : ByteArray) (m2 s6 : Int) (B : Option Addr) (cb : Nat) (ys : List Int) (w : World)
    (hp : p.size ≤ maxLen) (wm : (Lit.int .i64 m).wf = true) (w2' : (Lit.int .u64 s2).wf = true) (hA : Sl w w.heap.size 1 A xs.length (intV xs)) (hla : xs.length ≤ ca ∧ ca ≤ maxLen) (hxs : ∀ x ∈ xs, I64 x)
    (hp2 : p2.size ≤ maxLen) (wm2 : (Lit.int .i64 m2).wf = true) (w6' : (Lit.int .u64 s6).wf = true) (hB : Sl w w.heap.size 1 B ys.length (intV ys)) (hlb : ys.length ≤ cb ∧ cb ≤ maxLen) (hys : ∀ x ∈ ys, I64 x) (hT : Tabs w) :
    Calls Tryd.prog 5 #[.string p, .int .i64 m, .int .u64 s2, .slice A xs.length ca, .string p2, .int .i64 m2, .int .u64 s6, .slice B ys.length cb] w fun e w' => e = .returned (.bool true) ∧ Below w.heap.size w w' := by
  obtain ⟨r, rfl⟩ := u64_of_wf w2'
  obtain ⟨r2, rfl⟩ := u64_of_wf w6'
  obtain ⟨n, hn⟩ : ∃ n, xs.length = n := ⟨_, rfl⟩
  obtain ⟨k, hk⟩ : ∃ n, ys.length = n := ⟨_, rfl⟩
  rw [hn] at hA hla ⊢
  rw [hk] at hB hlb ⊢
  have Hn := Lib.hid (And.intro hn hk)
  have HA := Lib.hid hA
  have HB := Lib.hid hB
  have HT := Lib.hid hT
  have Hx := Lib.hid (And.intro hxs hys)
  have Hm : Hid (I64 m ∧ I64 m2) := Lib.hid ⟨bounds_i64 wm, bounds_i64 wm2⟩
  obtain ⟨b1, hb1⟩ : ∃ b, isNameB p = b := ⟨_, rfl⟩
  obtain ⟨b2, hb2⟩ : ∃ b, isNameB p2 = b := ⟨_, rfl⟩
  have Hb1 := Lib.hid hb1
  have Hb2 := Lib.hid hb2
  clear hA hB hT hxs hys wm wm2 w2' w6' hn hk hb1 hb2 hla hlb
  go_enter Tryd.func5, Tryd.ntmps5
  go_wp2_with fail
  refine (head36_any w HT.out).mono ?_
  rintro e w1 ⟨rfl, hBw1⟩
  by_cases h1 : n ≤ 40
  · have h1' : ¬ (40 : Int) < (n : Int) := by omega
    by_cases h2 : k ≤ 40
    · have h2' : ¬ (40 : Int) < (k : Int) := by omega
      go_wp2_with fail
      refine (name12_any p b1 Hb1 w1 hp).mono ?_
      rintro e w' ⟨rfl, hw'⟩
      obtain rfl := hw'
      cases b1 with
      | false =>
        go_wp2_with fail
        go_ret
        exact ⟨rfl, hBw1⟩
      | true =>
        go_wp2_with fail
        refine (name12_any p2 b2 Hb2 w1 hp2).mono ?_
        rintro e w' ⟨rfl, hw'⟩
        obtain rfl := hw'
        cases b2 with
        | false =>
          go_wp2_with fail
          go_ret
          exact ⟨rfl, hBw1⟩
        | true =>
          have hpz : p.size ≤ 16 := (of_decide_eq_true Hb1.out).2.1
          have hpz2 : p2.size ≤ 16 := (of_decide_eq_true Hb2.out).2.1
          have hinj := dtext_inj p p2 m m2 r r2 xs ys (name_word Hb1.out) (name_word Hb2.out)
          obtain ⟨t1, ht1⟩ : ∃ t, dText p m r xs = t := ⟨_, rfl⟩
          obtain ⟨t2, ht2⟩ : ∃ t, dText p2 m2 r2 ys = t := ⟨_, rfl⟩
          rw [ht1, ht2] at hinj
          have Ht1 := Lib.hid ht1
          have Ht2 := Lib.hid ht2
          have Hi := Lib.hid hinj
          clear ht1 ht2 hinj Hb1 Hb2 h1' h2'
          by_cases e1 : p = p2
          · have q1 : (p.toList == p2.toList) = true := by rw [tl_eq]; exact decide_eq_true e1
            by_cases e2 : m = m2
            · have q2 : (m == m2) = true := by rw [e2]; simp
              by_cases e3 : r = r2
              · have q3 : (((r.toNat : Int)) == ((r2.toNat : Int))) = true := by rw [u64_beq36]; exact decide_eq_true e3
                obtain ⟨sm, hsm⟩ : ∃ b, decide (xs = ys) = b := ⟨_, rfl⟩
                have Hcmp : Hid ((t1.toList == t2.toList) = sm) := Lib.hid (by
                  rw [tl_eq, ← hsm]
                  exact decide_eq_decide.2 ⟨fun h => (Hi.out.1 h).2.2.2, fun h => Hi.out.2 ⟨e1, e2, e3, h⟩⟩)
                have Hsm := Lib.hid hsm
                clear e1 e2 e3 hsm Hi
                go_wp2_with fail
                refine (ints_any A B ca cb n k xs ys sm Hn.out.1 Hn.out.2 Hsm (by omega) (by omega) w1 (HA.out.go hBw1) (HB.out.go hBw1)).mono ?_
                rintro e w1a ⟨rfl, hB1a⟩
                have hBw1a := bgo hBw1 hB1a
                clear hBw1 hB1a q1 q2 q3
                clear w1
                obtain ⟨w1, hw1⟩ : ∃ w1, w1 = w1a := ⟨_, rfl⟩
                rw [← hw1] at hBw1a ⊢
                clear hw1
                clear w1a
                have hBw1 := hBw1a
                clear hBw1a
                cases sm with
                | true =>
                  go_wp2_with fail
                  refine (dtext_any p m r A ca n xs t1 Hn.out.1 Ht1 Hm.out.1 Hx.out.1 (by omega) (by omega) w1 (HT.out.go hBw1) (HA.out.go hBw1)).mono ?_
                  rintro e w2 ⟨rfl, hB2⟩
                  have hBw2 := bgo hBw1 hB2
                  clear hBw1 hB2
                  go_wp2_with fail
                  refine (dtext_any p2 m2 r2 B cb k ys t2 Hn.out.2 Ht2 Hm.out.2 Hx.out.2 (by omega) (by omega) w2 (HT.out.go hBw2) (HB.out.go hBw2)).mono ?_
                  rintro e w3 ⟨rfl, hB3⟩
                  have hBw3 := bgo hBw2 hB3
                  clear hBw2 hB3
                  have hcmp := Hcmp.out
                  go_wp2_with fail
                  go_ret
                  exact ⟨by first | rfl | simp, hBw3⟩
                | false =>
                  go_wp2_with fail
                  refine (dtext_any p m r A ca n xs t1 Hn.out.1 Ht1 Hm.out.1 Hx.out.1 (by omega) (by omega) w1 (HT.out.go hBw1) (HA.out.go hBw1)).mono ?_
                  rintro e w2 ⟨rfl, hB2⟩
                  have hBw2 := bgo hBw1 hB2
                  clear hBw1 hB2
                  go_wp2_with fail
                  refine (dtext_any p2 m2 r2 B cb k ys t2 Hn.out.2 Ht2 Hm.out.2 Hx.out.2 (by omega) (by omega) w2 (HT.out.go hBw2) (HB.out.go hBw2)).mono ?_
                  rintro e w3 ⟨rfl, hB3⟩
                  have hBw3 := bgo hBw2 hB3
                  clear hBw2 hB3
                  have hcmp := Hcmp.out
                  go_wp2_with fail
                  go_ret
                  exact ⟨by first | rfl | simp, hBw3⟩
              · have q3 : (((r.toNat : Int)) == ((r2.toNat : Int))) = false := by rw [u64_beq36]; exact decide_eq_false e3
                have Hcmp : Hid ((t1.toList == t2.toList) = false) := Lib.hid (by
                  rw [tl_eq]; exact decide_eq_false (fun h => e3 (Hi.out.1 h).2.2.1))
                clear e1 e2 e3 Hi
                go_wp2_with fail
                refine (dtext_any p m r A ca n xs t1 Hn.out.1 Ht1 Hm.out.1 Hx.out.1 (by omega) (by omega) w1 (HT.out.go hBw1) (HA.out.go hBw1)).mono ?_
                rintro e w2 ⟨rfl, hB2⟩
                have hBw2 := bgo hBw1 hB2
                clear hBw1 hB2
                go_wp2_with fail
                refine (dtext_any p2 m2 r2 B cb k ys t2 Hn.out.2 Ht2 Hm.out.2 Hx.out.2 (by omega) (by omega) w2 (HT.out.go hBw2) (HB.out.go hBw2)).mono ?_
                rintro e w3 ⟨rfl, hB3⟩
                have hBw3 := bgo hBw2 hB3
                clear hBw2 hB3
                have hcmp := Hcmp.out
                go_wp2_with fail
                go_ret
                exact ⟨by first | rfl | simp, hBw3⟩
            · have q2 : (m == m2) = false := beq_eq_false_iff_ne.2 e2
              have Hcmp : Hid ((t1.toList == t2.toList) = false) := Lib.hid (by
                rw [tl_eq]; exact decide_eq_false (fun h => e2 (Hi.out.1 h).2.1))
              clear e1 e2 Hi
              go_wp2_with fail
              refine (dtext_any p m r A ca n xs t1 Hn.out.1 Ht1 Hm.out.1 Hx.out.1 (by omega) (by omega) w1 (HT.out.go hBw1) (HA.out.go hBw1)).mono ?_
              rintro e w2 ⟨rfl, hB2⟩
              have hBw2 := bgo hBw1 hB2
              clear hBw1 hB2
              go_wp2_with fail
              refine (dtext_any p2 m2 r2 B cb k ys t2 Hn.out.2 Ht2 Hm.out.2 Hx.out.2 (by omega) (by omega) w2 (HT.out.go hBw2) (HB.out.go hBw2)).mono ?_
              rintro e w3 ⟨rfl, hB3⟩
              have hBw3 := bgo hBw2 hB3
              clear hBw2 hB3
              have hcmp := Hcmp.out
              go_wp2_with fail
              go_ret
              exact ⟨by first | rfl | simp, hBw3⟩
          · have q1 : (p.toList == p2.toList) = false := by rw [tl_eq]; exact decide_eq_false e1
            have Hcmp : Hid ((t1.toList == t2.toList) = false) := Lib.hid (by
              rw [tl_eq]; exact decide_eq_false (fun h => e1 (Hi.out.1 h).1))
            clear e1 Hi
            go_wp2_with fail
            refine (dtext_any p m r A ca n xs t1 Hn.out.1 Ht1 Hm.out.1 Hx.out.1 (by omega) (by omega) w1 (HT.out.go hBw1) (HA.out.go hBw1)).mono ?_
            rintro e w2 ⟨rfl, hB2⟩
            have hBw2 := bgo hBw1 hB2
            clear hBw1 hB2
            go_wp2_with fail
            refine (dtext_any p2 m2 r2 B cb k ys t2 Hn.out.2 Ht2 Hm.out.2 Hx.out.2 (by omega) (by omega) w2 (HT.out.go hBw2) (HB.out.go hBw2)).mono ?_
            rintro e w3 ⟨rfl, hB3⟩
            have hBw3 := bgo hBw2 hB3
            clear hBw2 hB3
            have hcmp := Hcmp.out
            go_wp2_with fail
            go_ret
            exact ⟨by first | rfl | simp, hBw3⟩
    · have h2' : (40 : Int) < (k : Int) := by omega
      go_wp2_with fail
      go_ret
      exact ⟨rfl, hBw1⟩
  · have h1' : (40 : Int) < (n : Int) := by omega
    go_wp2_with fail
    go_ret
    exact ⟨rfl, hBw1⟩
end Go.Proofs.YtipnbcggimpdeaaDoor
