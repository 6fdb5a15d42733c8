/- Texts of totals (handover, plain), and words. calendar.First, in the namespace of calendar.Text. -/
import Derived.Test.YtpmakhfpdidleaaDoorQ06
import Derived.Test.YtpmakhfpdidleaaDoorQ07
namespace Go.Proofs.YtpmakhfpdidleaaDoor
open Go.RowKit Go.Shelf
set_option linter.unusedVariables false
set_option linter.unusedSimpArgs false
set_option maxRecDepth 100000
/-- Texts, with blanks between them. -/
def joinS (ss : List ByteArray) : ByteArray := ⟨(Lib.join (ss.map (·.data.toList)) [32]).toArray⟩
theorem hwords_at (A : Option Addr) (ca n : Nat) (ss : List ByteArray) (t : ByteArray) (hn : ss.length = n) (ht : Hid (joinS ss = t)) (h0 : 0 < n) (hc : n ≤ ca) (hl : n ≤ 1000000) (hs : t.size ≤ 140737488355328) (w : World) (hA : Sl w w.heap.size 1 A n (strV ss)) :
    Calls Tryd.prog 21 #[.slice A n ca] w fun e w' => e = .returned (.string t) ∧ Below w.heap.size w w' := by
  subst hn
  obtain ⟨b, off, rfl, hb, hcell⟩ := hA.2 h0
  have hcal := Tryd.strings_Join b off ca ss ⟨#[32]⟩ w (fun j x hx => hcell j _ (by simp [strV, hx])) hb (by omega) hc (by
    have e : (joinS ss).size ≤ 140737488355328 := by rw [ht.out]; exact hs
    have e2 : (joinS ss).size = (Lib.join (ss.map (·.data.toList)) [32]).length := by simp [joinS, ByteArray.size]
    show (Lib.join (ss.map (·.data.toList)) [32]).length ≤ _
    omega)
  have hfin : (⟨(Lib.join (ss.map (fun x => x.data.toList)) (⟨#[32]⟩ : ByteArray).data.toList).toArray⟩ : ByteArray) = t := by rw [← ht.out]; rfl
  rw [hfin] at hcal
  have HC := Lib.hid hcal
  clear hcal hfin hcell hA ht
  go_enter Tryd.func21, Tryd.ntmps21
  go_wp2_with fail
  refine HC.out.mono ?_
  rintro e w2 ⟨rfl, hB2⟩
  go_wp2
  go_ret
  exact ⟨rfl, hB2⟩
theorem joinS_size (l : List ByteArray) (B : Nat) (h : ∀ s ∈ l, s.size ≤ B) : (joinS l).size ≤ l.length * (B + 1) := by
  have e2 : (joinS l).size = (Lib.join (l.map (·.data.toList)) [32]).length := by simp [joinS, ByteArray.size]
  rw [e2]
  clear e2
  induction l with
  | nil => simp [Lib.join, List.intercalate]
  | cons a l ih =>
    have ha := h a List.mem_cons_self
    have hl : a.data.toList.length ≤ B := by simpa using ha
    have hi := ih fun s hs => h s (List.mem_cons_of_mem _ hs)
    cases l with
    | nil =>
      simp only [Lib.join, List.intercalate, List.map_cons, List.map_nil, List.intersperse, List.flatten_cons, List.flatten_nil, List.append_nil, List.length_cons, List.length_nil]
      omega
    | cons b l =>
      have e : (Lib.join ((a :: b :: l).map (·.data.toList)) [32]).length = a.data.toList.length + (1 + (Lib.join ((b :: l).map (·.data.toList)) [32]).length) := by
        simp [Lib.join, List.intercalate]
        omega
      rw [e, List.length_cons, Nat.add_mul]
      omega
theorem cut_word (s : UInt8) : ∀ (l1 l2 r1 r2 : List UInt8), s ∉ l1 → s ∉ l2 → l1 ++ s :: r1 = l2 ++ s :: r2 → l1 = l2 ∧ r1 = r2
  | [], [], r1, r2, _, _, h => ⟨rfl, by simpa using h⟩
  | [], x :: l2, r1, r2, _, h2, h => by
    injection h with h _
    exact absurd (h ▸ List.mem_cons_self) h2
  | x :: l1, [], r1, r2, h1, _, h => by
    injection h with h _
    exact absurd (h ▸ List.mem_cons_self) h1
  | x :: l1, y :: l2, r1, r2, h1, h2, h => by
    injection h with he h
    have := cut_word s l1 l2 r1 r2 (fun k => h1 (List.mem_cons_of_mem _ k)) (fun k => h2 (List.mem_cons_of_mem _ k)) h
    exact ⟨by rw [he, this.1], this.2⟩
theorem join_two (a b : List UInt8) (l : List (List UInt8)) : Lib.join (a :: b :: l) [32] = a ++ 32 :: Lib.join (b :: l) [32] := by
  simp [Lib.join, List.intercalate]
theorem join_one (a : List UInt8) : Lib.join [a] [32] = a := by simp [Lib.join, List.intercalate]
/-- Words without blanks can be read off their line. -/
theorem join_inj : ∀ (l m : List (List UInt8)), l ≠ [] → m ≠ [] → (∀ a ∈ l, (32 : UInt8) ∉ a) → (∀ a ∈ m, (32 : UInt8) ∉ a) → Lib.join l [32] = Lib.join m [32] → l = m
  | [], _, h, _, _, _, _ => absurd rfl h
  | _, [], _, h, _, _, _ => absurd rfl h
  | [a], [b], _, _, _, _, h => by rw [join_one, join_one] at h; rw [h]
  | [a], b :: c :: m, _, _, h1, _, h => by
    rw [join_one, join_two] at h
    exact absurd (by rw [h]; simp) (h1 a List.mem_cons_self)
  | a :: c :: l, [b], _, _, _, h2, h => by
    rw [join_one, join_two] at h
    exact absurd (by rw [← h]; simp) (h2 b List.mem_cons_self)
  | a :: c :: l, b :: d :: m, _, _, h1, h2, h => by
    rw [join_two, join_two] at h
    obtain ⟨e1, e2⟩ := cut_word 32 a b _ _ (h1 a List.mem_cons_self) (h2 b List.mem_cons_self) h
    have := join_inj (c :: l) (d :: m) (by simp) (by simp) (fun x hx => h1 x (List.mem_cons_of_mem _ hx)) (fun x hx => h2 x (List.mem_cons_of_mem _ hx)) e2
    rw [e1, this]
theorem itoa_word (n : Int) : (32 : UInt8) ∉ (itoaB n).data.toList := by
  intro h
  have h : (32 : UInt8) ∈ Lib.itoa n := by simpa [itoaB] using h
  rcases itoa_mem n 32 h with h | h
  · exact absurd h (by decide)
  · exact absurd h.1 (by decide)
theorem bytes_eq {a b : ByteArray} (h : a.data.toList = b.data.toList) : a = b := by
  obtain ⟨⟨l⟩⟩ := a
  obtain ⟨⟨m⟩⟩ := b
  have : l = m := h
  rw [this]
theorem itoaB_inj {m n : Int} (h : itoaB m = itoaB n) : m = n := by
  refine itoa_inj ?_
  have := congrArg (fun b : ByteArray => b.data.toList) h
  simpa [itoaB] using this
/-- Texts of payslips are equal exactly if what they say is. -/
theorem name_word {s : ByteArray} (h : isNameB s = true) : (32 : UInt8) ∉ s.data.toList := by
  intro hm
  have := (of_decide_eq_true h).2.2.2.2 32 hm
  exact absurd this (by decide)
def totalW : ByteArray := ⟨#[116, 111, 116, 97, 108]⟩
/-- The text of a month: the first seven signs of its first day's. -/
def monthB (m : Nat) : ByteArray := ⟨(Cal.four (2000 + m / 12) ++ 45 :: Cal.two (m % 12 + 1)).toArray⟩
def totL (t : TotD) : List ByteArray := [totalW, t.e, t.p, monthB t.m.toNat, itoaB t.g, itoaB t.x]
/-- The text of a total. -/
def textT (t : TotD) : ByteArray := if validTB t = true then joinS (totL t) else ⟨#[]⟩
theorem valid_out {t : TotD} (h : validTB t = true) : isNameB t.e = true ∧ isNameB t.p = true ∧ (0 ≤ t.m ∧ t.m ≤ 1199) ∧ (-1000000000000 ≤ t.g ∧ t.g ≤ 1000000000000) ∧ (-1000000000000 ≤ t.x ∧ t.x ≤ 1000000000000) := by
  unfold validTB at h
  simp only [Bool.and_eq_true, decide_eq_true_eq] at h
  exact ⟨h.1.1.1, h.1.1.2, h.1.2, ⟨h.2.1, h.2.2.1⟩, h.2.2.2⟩
theorem name_size {s : ByteArray} (h : isNameB s = true) : s.size ≤ 16 := (of_decide_eq_true h).2.1
theorem month_size (m : Nat) : (monthB m).size = 7 := rfl
theorem dig_word (n : Nat) (h : n < 10) : Cal.dig n ≠ 32 := by
  intro e
  have := congrArg UInt8.toNat e
  unfold Cal.dig at this
  rw [UInt8.toNat_ofNat'] at this
  simp at this
  omega
theorem dig_inj {a b : Nat} (ha : a < 10) (hb : b < 10) (h : Cal.dig a = Cal.dig b) : a = b := by
  have := congrArg UInt8.toNat h
  unfold Cal.dig at this
  rw [UInt8.toNat_ofNat', UInt8.toNat_ofNat'] at this
  omega
theorem month_word (m : Nat) (h : m ≤ 1199) : (32 : UInt8) ∉ (monthB m).data.toList := by
  unfold monthB Cal.four Cal.two
  simp only [List.cons_append, List.nil_append, List.mem_cons, List.not_mem_nil, or_false]
  rintro (e | e | e | e | e | e | e)
  · exact dig_word _ (by omega) e.symm
  · exact dig_word _ (by omega) e.symm
  · exact dig_word _ (by omega) e.symm
  · exact dig_word _ (by omega) e.symm
  · exact absurd e (by decide)
  · exact dig_word _ (by omega) e.symm
  · exact dig_word _ (by omega) e.symm
theorem month_inj {a b : Nat} (ha : a ≤ 1199) (hb : b ≤ 1199) (h : monthB a = monthB b) : a = b := by
  have h1 : (monthB a).data.toList = (monthB b).data.toList := by rw [h]
  unfold monthB Cal.four Cal.two at h1
  simp only [List.cons_append, List.nil_append, List.cons.injEq, and_true, true_and] at h1
  obtain ⟨e1, e2, e3, e4, e5, e6⟩ := h1
  have d1 := dig_inj (by omega) (by omega) e1
  have d2 := dig_inj (by omega) (by omega) e2
  have d3 := dig_inj (by omega) (by omega) e3
  have d4 := dig_inj (by omega) (by omega) e4
  have d5 := dig_inj (by omega) (by omega) e5
  have d6 := dig_inj (by omega) (by omega) e6
  omega
theorem totL_words {t : TotD} (h : validTB t = true) : ∀ a ∈ (totL t).map (·.data.toList), (32 : UInt8) ∉ a := by
  obtain ⟨h1, h2, h3, h4, h5⟩ := valid_out h
  unfold totL
  simp only [List.map_cons, List.map_nil, List.mem_cons, List.not_mem_nil, or_false]
  rintro a (rfl | rfl | rfl | rfl | rfl | rfl)
  · decide
  · exact name_word h1
  · exact name_word h2
  · exact month_word _ (by omega)
  · exact itoa_word _
  · exact itoa_word _
/-- Texts of valid totals are equal exactly if the totals are. -/
theorem text_inj {t u : TotD} (ht : validTB t = true) (hu : validTB u = true) (h : textT t = textT u) : t = u := by
  unfold textT at h
  rw [if_pos ht, if_pos hu] at h
  have h1 : Lib.join ((totL t).map (·.data.toList)) [32] = Lib.join ((totL u).map (·.data.toList)) [32] := by
    have : (joinS (totL t)).data.toList = (joinS (totL u)).data.toList := by rw [h]
    simpa [joinS] using this
  have h2 := join_inj _ _ (by simp [totL]) (by simp [totL]) (totL_words ht) (totL_words hu) h1
  unfold totL at h2
  simp only [List.map_cons, List.map_nil, List.cons.injEq, and_true, true_and] at h2
  obtain ⟨e1, e2, e3, e4, e5⟩ := h2
  obtain ⟨t1, t2, t3, t4, t5⟩ := valid_out ht
  obtain ⟨u1, u2, u3, u4, u5⟩ := valid_out hu
  have m1 := month_inj (by omega) (by omega) (bytes_eq e3)
  have g1 := itoaB_inj (bytes_eq e4)
  have x1 := itoaB_inj (bytes_eq e5)
  obtain ⟨te, tp, tm, tg, tx⟩ := t
  obtain ⟨ue, up, um, ug, ux⟩ := u
  dsimp only at *
  rw [bytes_eq e1, bytes_eq e2, g1, x1, show tm = um by omega]
theorem text_size {t : TotD} (h : validTB t = true) : (joinS (totL t)).size ≤ 200 := by
  obtain ⟨h1, h2, h3, h4, h5⟩ := valid_out h
  have := joinS_size (totL t) 21 (by
    unfold totL
    simp only [List.mem_cons, List.not_mem_nil, or_false]
    rintro s (rfl | rfl | rfl | rfl | rfl | rfl)
    · decide
    · have := name_size h1; omega
    · have := name_size h2; omega
    · rw [month_size]; omega
    · exact itoaB_size _ (by omega) (by omega)
    · exact itoaB_size _ (by omega) (by omega))
  have hl : (totL t).length = 6 := rfl
  rw [hl] at this
  omega
theorem text_ne {t : TotD} (h : validTB t = true) : textT t ≠ ⟨#[]⟩ := by
  intro e
  unfold textT at e
  rw [if_pos h] at e
  have : (joinS (totL t)).data.toList = [] := by rw [e]
  unfold joinS totL at this
  simp [Lib.join, List.intercalate, totalW] at this
theorem month_cut (m : Nat) (d : Nat) : (⟨(Cal.text (2000 + m / 12) (m % 12 + 1) d).toArray⟩ : ByteArray).extract 0 7 = monthB m := by
  apply ByteArray.ext
  apply Array.toList_inj.1
  unfold monthB Cal.text Cal.four Cal.two
  simp [ByteArray.data_extract]
end Go.Proofs.YtpmakhfpdidleaaDoor
namespace Go.Proofs.YtpmakhfpdidleaaDoor.CaT
open Go.RowKit Go.Sort Go.Proofs.YtpmakhfpdidleaaDoor
set_option linter.unusedVariables false
theorem yearStart_any (y : Nat) (hy : y ≤ 1000000) (w : World) : Calls Tryd.prog 38 #[.int .i64 (2000 + (y : Int))] w fun e w' => e = .returned (.int .i64 ((y * 365 + (y + 3) / 4 : Nat) : Int)) ∧ w = w' := by
  have h : (2000 + (y : Int)) - 2000 = (y : Int) := by omega
  have h2 : (y : Int) * 365 + ((y : Int) + 3) / 4 = ((y * 365 + (y + 3) / 4 : Nat) : Int) := by omega
  have H2 := Lib.hid h2
  clear h2
  go_enter Tryd.func38, Tryd.ntmps38
  go_wp2
  go_ret
  rw [← H2.out]
  exact ⟨rfl, rfl⟩
theorem first_no (m : Int) (h : m < 0 ∨ 1199 < m) (w : World) : Calls Tryd.prog 20 #[.int .i64 m] w fun e w' => e = .returned (.int .i64 (-1)) ∧ Below w.heap.size w w' := by
  rcases h with h | h
  · go_enter Tryd.func20, Tryd.ntmps20
    go_wp2
    go_ret
    exact ⟨rfl, Below.refl _ _⟩
  · have h' : ¬ m < 0 := by omega
    go_enter Tryd.func20, Tryd.ntmps20
    go_wp2
    go_ret
    exact ⟨rfl, Below.refl _ _⟩
set_option maxRecDepth 100000 in
theorem first_ok (m : Nat) (hm : m < 1200) (w : World) (hT : BTab w) : Calls Tryd.prog 20 #[.int .i64 (m : Int)] w fun e w' => e = .returned (.int .i64 (Cal.first m : Nat)) ∧ Below w.heap.size w w' := by
  have hfm : Cal.first m = m / 12 * 365 + (m / 12 + 3) / 4 + Cal.bef (m % 12) + (if 1 < m % 12 ∧ m / 12 % 4 = 0 then 1 else 0) := rfl
  obtain ⟨y, hy⟩ : ∃ y, m / 12 = y := ⟨_, rfl⟩
  obtain ⟨k, hk⟩ : ∃ k, m % 12 = k := ⟨_, rfl⟩
  have hk12 : k < 12 := by omega
  have hc0 := hT.cell k (by omega)
  have hb := bef_le k hk12
  obtain ⟨a, ha⟩ : ∃ a, Cal.bef k = a := ⟨_, rfl⟩
  obtain ⟨f, hf⟩ : ∃ f, Cal.first m = f := ⟨_, rfl⟩
  rw [hy, hk, ha, hf] at hfm
  rw [ha] at hc0 hb
  rw [hf]
  have hyi : (m : Int) / 12 = (y : Int) := by omega
  have hki : (m : Int) % 12 = (k : Int) := by omega
  have hy100 : y ≤ 100 := by omega
  have ha365 : a ≤ 365 := by omega
  have HF := Lib.hid hfm
  have hm0 : (0 : Int) ≤ (m : Int) := Int.natCast_nonneg _
  have hm1 : (m : Int) ≤ 1199 := by omega
  clear hT hf ha hfm hy hk hb
  obtain ⟨s, hs⟩ : ∃ s : Nat, y * 365 + (y + 3) / 4 = s := ⟨_, rfl⟩
  have hs2 : s ≤ 40000 := by omega
  have Hs := Lib.hid hs
  have hk0 : (0 : Int) ≤ (k : Int) := Int.natCast_nonneg _
  have hk13 : (k : Int) < 13 := by omega
  have hwr : IntKind.i64.wrap ((s : Int) + (a : Int)) = (s : Int) + (a : Int) := IntWalk.i64_in _ (by omega)
  have hy4 : ((2000 : Int) + (y : Int)) % 4 = (y : Int) % 4 := by omega
  have hys : ∀ w : World, Calls Tryd.prog 38 #[.int .i64 (2000 + (y : Int))] w fun e w' => e = .returned (.int .i64 (s : Int)) ∧ w = w' := fun w => by rw [← hs]; exact yearStart_any y (by omega) w
  have Hys := Lib.hid hys
  have htm : (m : Int).tmod 12 = (k : Int) := by rw [← hki]; exact Int.tmod_eq_emod_of_nonneg hm0
  clear hs hys
  by_cases hk1 : 1 < k
  · have hd1 : (1 : Int) < (k : Int) := by omega
    by_cases hyy : y % 4 = 0
    · have hd2 : (((y : Int) % 4) == 0) = true := by simp; omega
      have hres : (f : Int) = (s : Int) + (a : Int) + 1 := by rw [HF.out, if_pos ⟨hk1, hyy⟩, ← Hs.out]; omega
      have HR := Lib.hid hres
      clear hres hyy hk1
      go_enter Tryd.func20, Tryd.ntmps20
      go_wp2_with fail
      go_quiet ((go_at_call 38; exact quiet_left (Hys.out _)))
      clear hwr htm
      go_wp2
      go_ret
      rw [HR.out]
      exact ⟨rfl, below_drewN (Below.refl _ _) _⟩
    · have hd2 : (((y : Int) % 4) == 0) = false := by simp; omega
      have hres : (f : Int) = (s : Int) + (a : Int) := by rw [HF.out, if_neg (fun h => hyy h.2), ← Hs.out]; omega
      have HR := Lib.hid hres
      clear hres hyy hk1
      go_enter Tryd.func20, Tryd.ntmps20
      go_wp2_with fail
      go_quiet ((go_at_call 38; exact quiet_left (Hys.out _)))
      clear hwr htm
      go_wp2
      go_ret
      rw [HR.out]
      exact ⟨rfl, below_drewN (Below.refl _ _) _⟩
  · have hd1 : decide ((1 : Int) < (k : Int)) = false := decide_eq_false (by omega)
    have hres : (f : Int) = (s : Int) + (a : Int) := by rw [HF.out, if_neg (fun h => hk1 h.1), ← Hs.out]; omega
    have HR := Lib.hid hres
    clear hres hk1
    go_enter Tryd.func20, Tryd.ntmps20
    go_wp2_with fail
    go_quiet ((go_at_call 38; exact quiet_left (Hys.out _)))
    clear hwr htm
    go_wp2
    go_ret
    rw [HR.out]
    exact ⟨rfl, below_drewN (Below.refl _ _) _⟩
end Go.Proofs.YtpmakhfpdidleaaDoor.CaT
