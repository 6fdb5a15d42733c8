/- The walks of package calendar, third part: Day, Later, two, Text. -/
import Derived.Test.YtnfjpmchdbgonaaDoorCalW2
import Derived.Test.YtnfjpmchdbgonaaDoorShelf
import Derived.Lib.LaidTab
namespace Go.Proofs.YtnfjpmchdbgonaaDoor
open Go.RowKit Go.Sort
set_option linter.unusedVariables false
theorem below_grow {w : World} (k : Nat) (os : Array Obj) : Below w.heap.size w (grow (w.drewN k) os) := by
  refine ⟨rfl, rfl, rfl, ?_, ?_⟩
  · simp [grow]
  · intro b hb
    exact Array.getElem?_append_left hb
theorem tabIs_go {P : Program} {W W' : World} {name : String} {k : IntKind} {zs : List Int} (h : Lib.TabIs P W name k zs) (hb : Below W.heap.size W W') : Lib.TabIs P W' name k zs := by
  unfold Lib.TabIs World.var? at h ⊢
  cases hg : P.globalNamed name with
  | none => rw [hg] at h; cases h
  | some g =>
    rw [hg] at h
    simp only [Option.bind_some] at h ⊢
    cases ho : W.heap[g]? with
    | none => rw [ho] at h; cases h
    | some o =>
      have := hb.block g (Array.getElem?_eq_some_iff.1 ho).1
      rw [this]
      exact h
/-- The tables that the calendar reads lie in the world. -/
def Tabs (w : World) : Prop := BTab w ∧ Lib.TabIs Tryd.prog w "internal/strconv.uint64pow10" .u64 Lib.pow10Tab
theorem Tabs.go {w w' : World} (h : Tabs w) (hb : Below w.heap.size w w') : Tabs w' := ⟨h.1.go hb, tabIs_go h.2 hb⟩
def dayP (y m d : Int) : Prop := (2000 ≤ y ∧ y ≤ 2099) ∧ (1 ≤ m ∧ m ≤ 12) ∧ 1 ≤ d ∧ d ≤ ((Cal.len (y - 2000).toNat (m - 1).toNat : Nat) : Int)
instance (y m d : Int) : Decidable (dayP y m d) := by unfold dayP; infer_instance
def dayI (y m d : Int) : Int := if dayP y m d then ((Cal.first ((y - 2000).toNat * 12 + (m - 1).toNat) : Nat) : Int) + d - 1 else 0
def dayE (y m d : Int) : Int := if dayP y m d then 0 else 21
theorem first_at (m : Nat) (f : Nat) (hm : m < 1200) (hf : Cal.first m = f) (w : World) (hT : BTab w) : Calls Tryd.prog 21 #[.int .i64 (m : Int)] w fun e w' => e = .returned (.int .i64 (f : Int)) ∧ Below w.heap.size w w' := by
  subst hf; exact first_ok m hm w hT
theorem length_at (m : Nat) (l : Nat) (hm : m < 1200) (hl : Cal.lenM m = l) (w : World) (hT : BTab w) : Calls Tryd.prog 23 #[.int .i64 (m : Int)] w fun e w' => e = .returned (.int .i64 (l : Int)) ∧ Below w.heap.size w w' := by
  subst hl; exact length_ok m hm w hT
theorem day_any (y m d : Int) (w : World) (hT : BTab w) (hd : -9223372036854775808 ≤ d ∧ d ≤ 9223372036854775807) : Calls Tryd.prog 25 #[.int .i64 y, .int .i64 m, .int .i64 d] w fun e w' => e = .returned (.tuple #[.int .i64 (dayI y m d), .int .i64 (dayE y m d)]) ∧ Below w.heap.size w w' := by
  have HT := Lib.hid hT
  clear hT
  by_cases h1 : 2000 ≤ y
  · by_cases h2 : y ≤ 2099
    · by_cases h3 : 1 ≤ m
      · by_cases h4 : m ≤ 12
        · obtain ⟨Y, rfl⟩ : ∃ Y : Nat, y = 2000 + (Y : Int) := ⟨(y - 2000).toNat, by omega⟩
          obtain ⟨k, rfl⟩ : ∃ k : Nat, m = (k : Int) + 1 := ⟨(m - 1).toNat, by omega⟩
          have hY : Y ≤ 99 := by omega
          have hk : k < 12 := by omega
          have hP : dayP (2000 + (Y : Int)) ((k : Int) + 1) d ↔ 1 ≤ d ∧ d ≤ ((Cal.len Y k : Nat) : Int) := by
            unfold dayP
            rw [show ((2000 + (Y : Int)) - 2000).toNat = Y by omega, show (((k : Int) + 1) - 1).toNat = k by omega]
            constructor
            · exact fun h => h.2.2
            · exact fun h => ⟨⟨h1, h2⟩, ⟨h3, h4⟩, h⟩
          have hlen4 : Cal.len (2000 + Y) k = Cal.len Y k := Cal.len_4 Y k
          have hlb := Cal.lenM_bounds (Y * 12 + k)
          rw [Cal.lenM_year Y k hk] at hlb
          have hfb := Cal.first_bound (show Y * 12 + k ≤ 1200 by omega)
          obtain ⟨l, hl⟩ : ∃ l, Cal.len Y k = l := ⟨_, rfl⟩
          obtain ⟨f, hf⟩ : ∃ f, Cal.first (Y * 12 + k) = f := ⟨_, rfl⟩
          rw [hl] at hlen4 hlb hP
          rw [hf] at hfb
          have hc1 : (2000 : Int) + (Y : Int) = ((2000 + Y : Nat) : Int) := by omega
          have hc3 : (2000 + (Y : Int) - 2000) * 12 + ((k : Int) + 1) - 1 = ((Y * 12 + k : Nat) : Int) := by omega
          have hres : dayP (2000 + (Y : Int)) ((k : Int) + 1) d → dayI (2000 + (Y : Int)) ((k : Int) + 1) d = (f : Int) + d - 1 ∧ dayE (2000 + (Y : Int)) ((k : Int) + 1) d = 0 := by
            intro h
            unfold dayI dayE
            rw [if_pos h, if_pos h, show ((2000 + (Y : Int)) - 2000).toNat = Y by omega, show (((k : Int) + 1) - 1).toNat = k by omega, hf]
            exact ⟨rfl, rfl⟩
          have hno : ¬ dayP (2000 + (Y : Int)) ((k : Int) + 1) d → dayI (2000 + (Y : Int)) ((k : Int) + 1) d = 0 ∧ dayE (2000 + (Y : Int)) ((k : Int) + 1) d = 21 := by
            intro h
            unfold dayI dayE
            rw [if_neg h, if_neg h]
            exact ⟨rfl, rfl⟩
          have F := Lib.hid (And.intro hlen4 (And.intro hf (And.intro hc1 (And.intro hc3 (And.intro hres hno)))))
          clear hlen4 hl hf hc1 hc3 hres hno h1 h2 h3 h4
          by_cases h5 : 1 ≤ d
          · by_cases h6 : d ≤ (l : Int)
            · obtain ⟨e1, e2⟩ := F.out.2.2.2.2.1 (hP.2 ⟨h5, h6⟩)
              rw [e1, e2]
              clear hP e1 e2
              go_enter Tryd.func25, Tryd.ntmps25
              go_wp2_with fail
              rw [F.out.2.2.1]
              refine (lengthOf_at (2000 + Y) k l hk (by omega) F.out.1 _ HT.out).mono ?_
              rintro e w1 ⟨rfl, hB1⟩
              rw [← F.out.2.2.1]
              go_wp2_with fail
              rw [F.out.2.2.2.1]
              refine (first_at (Y * 12 + k) f (by omega) F.out.2.1 _ (HT.out.go hB1)).mono ?_
              rintro e w2 ⟨rfl, hB2⟩
              go_wp2_with fail
              go_ret2
              exact ⟨rfl, bgo hB1 hB2⟩
            · obtain ⟨e1, e2⟩ := F.out.2.2.2.2.2 (fun h => h6 (hP.1 h).2)
              rw [e1, e2]
              clear hP e1 e2
              have h6' : (l : Int) < d := by omega
              go_enter Tryd.func25, Tryd.ntmps25
              go_wp2_with fail
              rw [F.out.2.2.1]
              refine (lengthOf_at (2000 + Y) k l hk (by omega) F.out.1 _ HT.out).mono ?_
              rintro e w1 ⟨rfl, hB1⟩
              rw [← F.out.2.2.1]
              go_wp2_with fail
              go_ret2
              exact ⟨rfl, hB1⟩
          · obtain ⟨e1, e2⟩ := F.out.2.2.2.2.2 (fun h => h5 (hP.1 h).1)
            rw [e1, e2]
            clear hP e1 e2
            have h5' : d < 1 := by omega
            go_enter Tryd.func25, Tryd.ntmps25
            go_wp2_with fail
            go_ret2
            exact ⟨rfl, Below.refl _ _⟩
        · have hbad : ¬ dayP y m d := fun h => h4 h.2.1.2
          have h4' : 12 < m := by omega
          rw [show dayI y m d = 0 from if_neg hbad, show dayE y m d = 21 from if_neg hbad]
          clear hbad
          go_enter Tryd.func25, Tryd.ntmps25
          go_wp2_with fail
          go_ret2
          exact ⟨rfl, Below.refl _ _⟩
      · have hbad : ¬ dayP y m d := fun h => h3 h.2.1.1
        have h3' : m < 1 := by omega
        rw [show dayI y m d = 0 from if_neg hbad, show dayE y m d = 21 from if_neg hbad]
        clear hbad
        go_enter Tryd.func25, Tryd.ntmps25
        go_wp2_with fail
        go_ret2
        exact ⟨rfl, Below.refl _ _⟩
    · have hbad : ¬ dayP y m d := fun h => h2 h.1.2
      have h2' : 2099 < y := by omega
      rw [show dayI y m d = 0 from if_neg hbad, show dayE y m d = 21 from if_neg hbad]
      clear hbad
      go_enter Tryd.func25, Tryd.ntmps25
      go_wp2_with fail
      go_ret2
      exact ⟨rfl, Below.refl _ _⟩
  · have hbad : ¬ dayP y m d := fun h => h1 h.1.1
    have h1' : y < 2000 := by omega
    rw [show dayI y m d = 0 from if_neg hbad, show dayE y m d = 21 from if_neg hbad]
    clear hbad
    go_enter Tryd.func25, Tryd.ntmps25
    go_wp2_with fail
    go_ret2
    exact ⟨rfl, Below.refl _ _⟩
theorem later_bad (n mo : Int) (h : validB n = false ∨ mo < -1199 ∨ 1199 < mo) (w : World) : Calls Tryd.prog 13 #[.int .i64 n, .int .i64 mo] w fun e w' => e = .returned (.tuple #[.int .i64 0, .int .i64 21]) ∧ Below w.heap.size w w' := by
  obtain ⟨b, hb⟩ : ∃ b, validB n = b := ⟨_, rfl⟩
  rw [hb] at h
  have Hb := Lib.hid hb
  clear hb
  cases b with
  | false =>
    clear h
    go_enter Tryd.func13, Tryd.ntmps13
    go_wp2_with fail
    refine (valid_any _ false Hb.out _).mono ?_
    rintro e w' ⟨rfl, rfl⟩
    go_wp2_with fail
    go_ret2
    exact ⟨rfl, Below.refl _ _⟩
  | true =>
    rcases h with h | h | h
    · cases h
    · go_enter Tryd.func13, Tryd.ntmps13
      go_wp2_with fail
      refine (valid_any _ true Hb.out _).mono ?_
      rintro e w' ⟨rfl, rfl⟩
      go_wp2_with fail
      go_ret2
      exact ⟨rfl, Below.refl _ _⟩
    · have h' : ¬ mo < -1199 := by omega
      go_enter Tryd.func13, Tryd.ntmps13
      go_wp2_with fail
      refine (valid_any _ true Hb.out _).mono ?_
      rintro e w' ⟨rfl, rfl⟩
      go_wp2_with fail
      go_ret2
      exact ⟨rfl, Below.refl _ _⟩
theorem later_out (n M : Nat) (mo : Int) (h : Cal.InM n M) (h1 : -1199 ≤ mo) (h2 : mo ≤ 1199) (h3 : (M : Int) + mo < 0 ∨ 1199 < (M : Int) + mo) (w : World) (hT : BTab w) : Calls Tryd.prog 13 #[.int .i64 (n : Int), .int .i64 mo] w fun e w' => e = .returned (.tuple #[.int .i64 0, .int .i64 21]) ∧ Below w.heap.size w w' := by
  have hM := h.1
  have H := Lib.hid (And.intro h (And.intro hT (validB_yes n h.day)))
  clear h hT
  rcases h3 with h3 | h3
  · go_enter Tryd.func13, Tryd.ntmps13
    go_wp2_with fail
    refine (valid_any _ true H.out.2.2 _).mono ?_
    rintro e w' ⟨rfl, rfl⟩
    go_wp2_with fail
    refine (month_ok n M H.out.1 _ H.out.2.1).mono ?_
    rintro e w1 ⟨rfl, hB⟩
    go_wp2_with fail
    go_ret2
    exact ⟨rfl, hB⟩
  · have h3' : ¬ ((M : Int) + mo < 0) := by omega
    go_enter Tryd.func13, Tryd.ntmps13
    go_wp2_with fail
    refine (valid_any _ true H.out.2.2 _).mono ?_
    rintro e w' ⟨rfl, rfl⟩
    go_wp2_with fail
    refine (month_ok n M H.out.1 _ H.out.2.1).mono ?_
    rintro e w1 ⟨rfl, hB⟩
    go_wp2_with fail
    go_ret2
    exact ⟨rfl, hB⟩
theorem min_nn (a b : Nat) : ∃ m : Nat, (if b < a then (b : Int) else (a : Int)) = (m : Int) ∧ m = min a b := by
  by_cases h : b < a
  · exact ⟨b, by rw [if_pos h], by omega⟩
  · exact ⟨a, by rw [if_neg h], by omega⟩
theorem later_ok (n M K r : Nat) (mo : Int) (h : Cal.InM n M) (h1 : -1199 ≤ mo) (h2 : mo ≤ 1199) (hK : (M : Int) + mo = (K : Int)) (hK2 : K < 1200) (hr : Cal.first K + min (Cal.dom n M) (Cal.lenM K) - 1 = r) (w : World) (hT : BTab w) : Calls Tryd.prog 13 #[.int .i64 (n : Int), .int .i64 mo] w fun e w' => e = .returned (.tuple #[.int .i64 (r : Int), .int .i64 0]) ∧ Below w.heap.size w w' := by
  have hM := h.1
  have H := Lib.hid (And.intro h (And.intro hT (validB_yes n h.day)))
  have hdb := h.dom
  have hlb := Cal.lenM_bounds K
  have hlb2 := Cal.lenM_bounds M
  have hfb := Cal.first_bound (show K ≤ 1200 by omega)
  obtain ⟨d, hd⟩ : ∃ d, Cal.dom n M = d := ⟨_, rfl⟩
  obtain ⟨l, hl⟩ : ∃ l, Cal.lenM K = l := ⟨_, rfl⟩
  obtain ⟨f, hf⟩ : ∃ f, Cal.first K = f := ⟨_, rfl⟩
  have hd31 : d ≤ 31 := by rw [← hd]; omega
  have hd1 : 1 ≤ d := by rw [← hd]; omega
  rw [hd, hl, hf] at hr
  rw [hl] at hlb
  rw [hf] at hfb
  obtain ⟨mn, hmn, hmn2⟩ := min_nn d l
  have hmin : min (d : Int) (l : Int) = (mn : Int) := by omega
  have hmn3 : mn ≤ 31 := by omega
  have hmn4 : 1 ≤ mn := by omega
  have hres : (f : Int) + (mn : Int) - 1 = (r : Int) := by rw [← hmn2] at hr; omega
  have F := Lib.hid (And.intro hd (And.intro hl (And.intro hf hres)))
  clear h hT hd hl hf hr hres hmn2 hdb hlb2
  go_enter Tryd.func13, Tryd.ntmps13
  go_wp2_with fail
  refine (valid_any _ true H.out.2.2 _).mono ?_
  rintro e w' ⟨rfl, rfl⟩
  go_wp2_with fail
  refine (month_ok n M H.out.1 _ H.out.2.1).mono ?_
  rintro e w1 ⟨rfl, hB1⟩
  go_wp2_with fail
  refine (date_at n M _ _ d H.out.1 rfl rfl F.out.1 _ (H.out.2.1.go hB1)).mono ?_
  rintro e w2 ⟨rfl, hB⟩
  have hB2 := bgo hB1 hB
  clear hB1 hB
  go_wp2_with fail
  refine (first_at K f hK2 F.out.2.2.1 _ (H.out.2.1.go hB2)).mono ?_
  rintro e w3 ⟨rfl, hB⟩
  have hB3 := bgo hB2 hB
  clear hB2 hB
  go_wp2_with fail
  refine (length_at K l hK2 F.out.2.1 _ (H.out.2.1.go hB3)).mono ?_
  rintro e w4 ⟨rfl, hB⟩
  have hB4 := bgo hB3 hB
  clear hB3 hB
  go_wp2_with fail
  go_ret2
  rw [← F.out.2.2.2]
  exact ⟨rfl, hB4⟩
theorem dec_small (n : Nat) (h : n < 100) : (n < 10 → Lib.decDigits n = [Cal.dig n]) ∧ (10 ≤ n → Lib.decDigits n = Cal.two n) := by
  have key : ∀ k : Fin 100, (k.val < 10 → Lib.decDigits k.val = [Cal.dig k.val]) ∧ (10 ≤ k.val → Lib.decDigits k.val = Cal.two k.val) := by decide +kernel
  exact key ⟨n, h⟩
theorem dec_year (n : Nat) (h1 : 2000 ≤ n) (h2 : n < 2100) : Lib.decDigits n = Cal.four n := by
  have key : ∀ k : Fin 100, Lib.decDigits (2000 + k.val) = Cal.four (2000 + k.val) := by decide +kernel
  have := key ⟨n - 2000, by omega⟩
  simpa [show 2000 + (n - 2000) = n by omega] using this
theorem two_any (n : Nat) (h : n < 100) (w : World) : Calls Tryd.prog 33 #[.int .i64 (n : Int)] w fun e w' => e = .returned (.string ⟨(Cal.two n).toArray⟩) ∧ w = w' := by
  have hd := dec_small n h
  by_cases h10 : n < 10
  · have e1 := hd.1 h10
    have e2 : (⟨#[48]⟩ : ByteArray) ++ ⟨(Lib.decDigits n).toArray⟩ = ⟨(Cal.two n).toArray⟩ := by
      rw [e1]
      apply ByteArray.ext
      simp [ByteArray.data_append, Cal.two, show n / 10 = 0 by omega, show n % 10 = n by omega, Cal.dig]
    have hsz : (⟨(Lib.decDigits n).toArray⟩ : ByteArray).size = 1 := by rw [e1]; rfl
    have HE := Lib.hid e2
    have h10' : (n : Int) < 10 := by omega
    clear hd e1 e2 h10
    go_enter Tryd.func33, Tryd.ntmps33
    go_wp2_with fail
    refine (Tryd.strconv_Itoa_small n h _).mono ?_
    rintro e w' ⟨rfl, hw⟩
    subst hw
    go_wp2_with fail
    go_ret
    rw [← HE.out]
    exact ⟨rfl, rfl⟩
  · have e1 := hd.2 (by omega)
    have HE := Lib.hid e1
    have h10' : ¬ ((n : Int) < 10) := by omega
    clear hd e1
    go_enter Tryd.func33, Tryd.ntmps33
    go_wp2_with fail
    refine (Tryd.strconv_Itoa_small n h _).mono ?_
    rintro e w' ⟨rfl, hw⟩
    subst hw
    go_wp2_with fail
    go_ret
    rw [← HE.out]
    exact ⟨rfl, rfl⟩
theorem text_join (y m d : Nat) : (⟨(Cal.four y).toArray⟩ : ByteArray) ++ ⟨#[45]⟩ ++ ⟨(Cal.two m).toArray⟩ ++ ⟨#[45]⟩ ++ ⟨(Cal.two d).toArray⟩ = ⟨(Cal.text y m d).toArray⟩ := by
  apply ByteArray.ext
  simp [ByteArray.data_append, Cal.text]
theorem text_ok (n M y m d : Nat) (h : Cal.InM n M) (hy : 2000 + M / 12 = y) (hm : M % 12 + 1 = m) (hd : Cal.dom n M = d) (w : World) (hT : Tabs w) : Calls Tryd.prog 19 #[.int .i64 (n : Int)] w fun e w' => e = .returned (.string ⟨(Cal.text y m d).toArray⟩) ∧ Below w.heap.size w w' := by
  have hM := h.1
  have hdb := h.dom
  have hlb := Cal.lenM_bounds M
  have hd31 : d < 100 := by omega
  have hm12 : m < 100 := by omega
  have hy1 : 2000 ≤ y := by omega
  have hy2 : y < 2100 := by omega
  have hit : Lib.itoa (y : Int) = Cal.four y := by
    unfold Lib.itoa
    rw [if_neg (by omega), Int.toNat_natCast, dec_year y hy1 hy2]
  have hs1 : (⟨(Cal.four y).toArray⟩ : ByteArray).size = 4 := rfl
  have hs2 : (⟨(Cal.two m).toArray⟩ : ByteArray).size = 2 := rfl
  have hs3 : (⟨(Cal.two d).toArray⟩ : ByteArray).size = 2 := rfl
  have F := Lib.hid (And.intro h (And.intro hy (And.intro hm (And.intro hd (And.intro hT (And.intro (validB_yes n h.day) hit))))))
  clear h hy hm hd hT hit hdb hlb
  go_enter Tryd.func19, Tryd.ntmps19
  go_wp2_with fail
  refine (valid_any _ true F.out.2.2.2.2.2.1 _).mono ?_
  rintro e w' ⟨rfl, rfl⟩
  go_wp2_with fail
  refine (date_at n M y m d F.out.1 F.out.2.1 F.out.2.2.1 F.out.2.2.2.1 _ F.out.2.2.2.2.1.1).mono ?_
  rintro e w1 ⟨rfl, hB1⟩
  go_wp2_with fail
  refine (Tryd.strconv_Itoa (y : Int) (by omega) (by omega) _ (F.out.2.2.2.2.1.go hB1).2).mono ?_
  rintro e w2 ⟨rfl, k, os, hw2⟩
  have hB : Below w1.heap.size w1 w2 := by rw [hw2]; exact below_grow k os
  have hB2 := bgo hB1 hB
  clear hw2 hB hB1
  rw [F.out.2.2.2.2.2.2]
  go_wp2_with fail
  refine (two_any m hm12 _).mono ?_
  rintro e w' ⟨rfl, rfl⟩
  go_wp2_with fail
  refine (two_any d hd31 _).mono ?_
  rintro e w' ⟨rfl, rfl⟩
  go_wp2_with fail
  go_ret
  rw [← text_join]
  exact ⟨rfl, hB2⟩
theorem text_no (n : Int) (h : validB n = false) (w : World) : Calls Tryd.prog 19 #[.int .i64 n] w fun e w' => e = .returned (.string ⟨#[]⟩) ∧ Below w.heap.size w w' := by
  have H := Lib.hid h
  clear h
  go_enter Tryd.func19, Tryd.ntmps19
  go_wp2_with fail
  refine (valid_any _ false H.out _).mono ?_
  rintro e w' ⟨rfl, rfl⟩
  go_wp2_with fail
  go_ret
  exact ⟨rfl, Below.refl _ _⟩
end Go.Proofs.YtnfjpmchdbgonaaDoor
