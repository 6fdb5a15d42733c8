/- Plain calendar: months as numbers 0 to 1199, their first days, the date of a day. In place of the calendar's walks, for seats that do not reach them: the table that strconv reads. The walks of package payslip, second part: isIndex, inRange, join, Leaf, listed, reason. The data of payslip in plain words; the walks of listed and reason. The walk of payslip's fits. Plain arithmetic for the layers 26 and 27: a prime q, Fermat's little theorem, the group of order q modulo p. Powers modulo p, the group of order q. -/
import Derived.Test.YtfjkmhbipkoefaaGreatDoorQ01
import Derived.Test.YtfjkmhbipkoefaaGreatDoorQ05
import Derived.Deep.RegionHeld
import Derived.Lib.Join
import Derived.Deep.DeepCutAuto
import Derived.WalkKit
namespace Go.Cal
def bef : Nat → Nat
  | 0 => 0
  | 1 => 31
  | 2 => 59
  | 3 => 90
  | 4 => 120
  | 5 => 151
  | 6 => 181
  | 7 => 212
  | 8 => 243
  | 9 => 273
  | 10 => 304
  | 11 => 334
  | _ => 365
/-- The length of month k (0 to 11) of a year. -/
def len (y k : Nat) : Nat := bef (k + 1) - bef k + (if k = 1 ∧ y % 4 = 0 then 1 else 0)
/-- The first day of month m (0 to 1199). -/
def first (m : Nat) : Nat := m / 12 * 365 + (m / 12 + 3) / 4 + bef (m % 12) + (if 1 < m % 12 ∧ m / 12 % 4 = 0 then 1 else 0)
def lenM (m : Nat) : Nat := len (m / 12) (m % 12)
theorem k12 (k : Nat) (h : k < 12) : k = 0 ∨ k = 1 ∨ k = 2 ∨ k = 3 ∨ k = 4 ∨ k = 5 ∨ k = 6 ∨ k = 7 ∨ k = 8 ∨ k = 9 ∨ k = 10 ∨ k = 11 := by omega
theorem first_succ (m : Nat) : first (m + 1) = first m + lenM m := by
  have hk := k12 (m % 12) (Nat.mod_lt _ (by omega))
  unfold first lenM len
  rcases hk with h | h | h | h | h | h | h | h | h | h | h | h
  all_goals
    have h1 : (m + 1) / 12 = m / 12 + (if m % 12 = 11 then 1 else 0) := by rw [h]; simp <;> omega
    have h2 : (m + 1) % 12 = (if m % 12 = 11 then 0 else m % 12 + 1) := by rw [h]; simp <;> omega
    rw [h1, h2, h]
    simp [bef]
    try (split <;> omega)
    try omega
theorem lenM_bounds (m : Nat) : 28 ≤ lenM m ∧ lenM m ≤ 31 := by
  have hk := k12 (m % 12) (Nat.mod_lt _ (by omega))
  unfold lenM len
  rcases hk with h | h | h | h | h | h | h | h | h | h | h | h <;> rw [h] <;> simp [bef]
  split <;> omega
theorem first_0 : first 0 = 0 := rfl
theorem first_1200 : first 1200 = 36525 := by decide
theorem first_mono (a : Nat) : ∀ d, first a + 28 * d ≤ first (a + d)
  | 0 => by simp
  | d + 1 => by
    have := first_mono a d
    rw [← Nat.add_assoc, first_succ]
    have := lenM_bounds (a + d)
    omega
theorem first_le {a b : Nat} (h : a ≤ b) : first a ≤ first b := by
  obtain ⟨d, rfl⟩ : ∃ d, b = a + d := ⟨b - a, by omega⟩
  have := first_mono a d
  omega
theorem first_lt {a b : Nat} (h : a < b) : first a < first b := by
  obtain ⟨d, rfl⟩ : ∃ d, b = a + (d + 1) := ⟨b - a - 1, by omega⟩
  have := first_mono a (d + 1)
  omega
theorem first_bound {m : Nat} (h : m ≤ 1200) : first m ≤ 36525 := by rw [← first_1200]; exact first_le h
theorem exists_upto (n K : Nat) (h : n < first K) : ∃ M, M < K ∧ first M ≤ n ∧ n < first (M + 1) := by
  induction K with
  | zero => rw [first_0] at h; omega
  | succ K ih =>
    by_cases h1 : n < first K
    · obtain ⟨M, h2, h3⟩ := ih h1
      exact ⟨M, by omega, h3⟩
    · exact ⟨K, by omega, by omega, h⟩
/-- Day n lies in month M. -/
def InM (n M : Nat) : Prop := M < 1200 ∧ first M ≤ n ∧ n < first (M + 1)
theorem exists_month (n : Nat) (h : n < 36525) : ∃ M, InM n M := by
  obtain ⟨M, h1, h2⟩ := exists_upto n 1200 (by rw [first_1200]; exact h)
  exact ⟨M, h1, h2⟩
theorem InM.day {n M : Nat} (h : InM n M) : n < 36525 := by
  have := first_bound (show M + 1 ≤ 1200 from h.1)
  have := h.2.2
  omega
theorem InM.unique {n M K : Nat} (h : InM n M) (k : InM n K) : M = K := by
  rcases Nat.lt_trichotomy M K with hl | hl | hl
  · have := first_le (show M + 1 ≤ K from hl)
    have := h.2.2
    have := k.2.1
    omega
  · exact hl
  · have := first_le (show K + 1 ≤ M from hl)
    have := k.2.2
    have := h.2.1
    omega
theorem InM.mono {n k M K : Nat} (h : InM n M) (h' : InM k K) (hn : n ≤ k) : M ≤ K := by
  rcases Nat.lt_or_ge K M with hl | hl
  · have := first_le (show K + 1 ≤ M from hl)
    have := h.2.1
    have := h'.2.2
    omega
  · exact hl
/-- The day of the month. -/
def dom (n M : Nat) : Nat := n - first M + 1
theorem InM.dom {n M : Nat} (h : InM n M) : 1 ≤ dom n M ∧ dom n M ≤ lenM M ∧ first M + dom n M = n + 1 := by
  have h1 := first_succ M
  have h2 := h.2
  unfold Cal.dom
  omega
theorem inM_of {M d : Nat} (hM : M < 1200) (h1 : 1 ≤ d) (h2 : d ≤ lenM M) : InM (first M + d - 1) M := by
  have h3 := first_succ M
  exact ⟨hM, by omega, by omega⟩
theorem lenM_year (y k : Nat) (hk : k < 12) : lenM (y * 12 + k) = len y k := by
  unfold lenM
  rw [show (y * 12 + k) / 12 = y by omega, show (y * 12 + k) % 12 = k by omega]
theorem len_4 (y k : Nat) : len (2000 + y) k = len y k := by
  unfold len
  rw [show (2000 + y) % 4 = y % 4 by omega]
theorem first_48 (q : Nat) : first (48 * q) = 1461 * q := by
  unfold first
  rw [show 48 * q / 12 = 4 * q by omega, show 48 * q % 12 = 0 by omega]
  simp [bef]
  omega
def dig (n : Nat) : UInt8 := UInt8.ofNat (48 + n)
def two (n : Nat) : List UInt8 := [dig (n / 10), dig (n % 10)]
def four (n : Nat) : List UInt8 := [dig (n / 1000), dig (n / 100 % 10), dig (n / 10 % 10), dig (n % 10)]
/-- The text of a date. -/
def text (y m d : Nat) : List UInt8 := four y ++ 45 :: two m ++ 45 :: two d
end Go.Cal
namespace Go.Proofs.YtfjkmhbipkoefaaGreatDoor.CaT
open Go.RowKit Go.Sort
def Tabs (w : World) : Prop := True ∧ PTab w
theorem Tabs.go {w w' : World} (h : Tabs w) (hb : Below w.heap.size w w') : Tabs w' := ⟨h.1, h.2.go hb⟩
end Go.Proofs.YtfjkmhbipkoefaaGreatDoor.CaT
namespace Go.Proofs.YtfjkmhbipkoefaaGreatDoor
open Go.RowKit Go.Shelf
set_option linter.unusedVariables false
set_option linter.unusedSimpArgs false
set_option maxRecDepth 100000
theorem inRange_at (n : Int) (r : Bool) (hr : Hid (decide (-500000000 ≤ n ∧ n ≤ 500000000) = r)) (w : World) : Calls Tryz.prog 70 #[.int .i64 n] w fun e w' => e = .returned (.bool r) ∧ w = w' := by
  rw [← hr.out]
  clear hr
  by_cases h0 : -500000000 ≤ n
  · by_cases h1 : n ≤ 500000000
    · rw [decide_eq_true ⟨h0, h1⟩]
      go_enter Tryz.func70, Tryz.ntmps70
      go_wp2_with fail
      go_ret
      exact ⟨rfl, rfl⟩
    · rw [decide_eq_false (fun h => h1 h.2)]
      have h1' : decide (n ≤ 500000000) = false := decide_eq_false h1
      clear h1
      go_enter Tryz.func70, Tryz.ntmps70
      go_wp2_with fail
      go_ret
      exact ⟨rfl, rfl⟩
  · rw [decide_eq_false (fun h => h0 h.1)]
    have h0' : n < -500000000 := by omega
    clear h0
    go_enter Tryz.func70, Tryz.ntmps70
    go_wp2_with fail
    go_ret
    exact ⟨rfl, rfl⟩
/-- Texts, one behind the other. -/
def catB : List ByteArray → ByteArray
  | [] => ⟨#[]⟩
  | s :: l => s ++ catB l
theorem catB_data (l : List ByteArray) : (catB l).data.toList = (l.map (·.data.toList)).flatten := by
  induction l with
  | nil => rfl
  | cons s l ih => rw [catB, app_data, ih]; rfl
theorem join_nil : ∀ l : List (List UInt8), Lib.join l [] = l.flatten
  | [] => rfl
  | [a] => by simp [Lib.join, List.intercalate]
  | a :: b :: l => by
    have := join_nil (b :: l)
    unfold Lib.join List.intercalate at this ⊢
    rw [List.flatten_cons, ← this]
    rfl
theorem catB_size (l : List ByteArray) : (catB l).size = (l.map ByteArray.size).sum := by
  induction l with
  | nil => rfl
  | cons s l ih => rw [catB, app_size, ih]; rfl
theorem join_at (A : Option Addr) (ca n : Nat) (ss : List ByteArray) (t : ByteArray) (hn : ss.length = n) (ht : Hid (catB ss = t)) (h0 : 0 < n) (hc : n ≤ ca) (hl : n ≤ 1000) (hs : t.size ≤ 140737488355328) (w : World) (hA : Sl w w.heap.size 1 A n (strV ss)) :
    Calls Tryz.prog 46 #[.slice A n ca] w fun e w' => e = .returned (.string t) ∧ Below w.heap.size w w' := by
  subst hn
  obtain ⟨b, off, rfl, hb, hcell⟩ := hA.2 h0
  have hcal := Tryz.strings_Join b off ca ss ⟨#[]⟩ w (fun j x hx => hcell j _ (by simp [strV, hx])) hb (by omega) hc (by
    show (Lib.join (ss.map (·.data.toList)) []).length ≤ _
    rw [join_nil, ← catB_data, ht.out]
    exact hs)
  have hfin : (⟨(Lib.join (ss.map (fun x => x.data.toList)) (⟨#[]⟩ : ByteArray).data.toList).toArray⟩ : ByteArray) = t := by
    show (⟨(Lib.join (ss.map (fun x => x.data.toList)) []).toArray⟩ : ByteArray) = t
    rw [join_nil, ← ht.out]
    apply WideShapes.bytes_inj
    rw [catB_data]
  rw [hfin] at hcal
  have HC := Lib.hid hcal
  clear hcal hfin hcell hA ht
  go_enter Tryz.func46, Tryz.ntmps46
  go_wp2_with fail
  refine HC.out.mono ?_
  rintro e w2 ⟨rfl, hB2⟩
  go_wp2
  go_ret
  exact ⟨rfl, hB2⟩
def colon : ByteArray := ⟨#[58]⟩
def blank : ByteArray := ⟨#[32]⟩
/-- The leaf of a row. -/
def leafB (label : ByteArray) (c : Int) (reason : ByteArray) : ByteArray := catB [itoaB label.size, colon, label, itoaB c, blank, reason]
theorem leafP_any (label : ByteArray) (c : Int) (reason t : ByteArray) (ht : Hid (leafB label c reason = t)) (hc : -9223372036854775808 ≤ c ∧ c ≤ 9223372036854775807) (hl : label.size ≤ 70368744177000) (hr : reason.size ≤ 70368744177000) (w : World) (hT : PTab w) :
    Calls Tryz.prog 16 #[.string label, .int .i64 c, .string reason] w fun e w' => e = .returned (.string t) ∧ Below w.heap.size w w' := by
  obtain ⟨a, ha⟩ : ∃ a, itoaB label.size = a := ⟨_, rfl⟩
  obtain ⟨b, hb⟩ : ∃ b, itoaB c = b := ⟨_, rfl⟩
  have ha1 := itoaB_size label.size (by omega) (by omega)
  have hb1 := itoaB_size c hc.1 hc.2
  have hts : t.size ≤ 140737488355328 := by
    rw [← ht.out, leafB, catB_size, ha, hb]
    rw [ha] at ha1
    rw [hb] at hb1
    have e1 : colon.size = 1 := rfl
    have e2 : blank.size = 1 := rfl
    simp only [List.map_cons, List.map_nil, List.sum_cons, List.sum_nil, e1, e2]
    omega
  have Ha := Lib.hid ha
  have Hb := Lib.hid hb
  have Ht : Hid (catB [a, colon, label, b, blank, reason] = t) := Lib.hid (by rw [← ha, ← hb]; exact ht.out)
  clear ha1 hb1 ha hb ht
  go_enter Tryz.func16, Tryz.ntmps16
  go_wp2_with fail
  refine (itoa_any label.size (by omega) (by omega) a Ha _ hT).mono ?_
  rintro e w1 ⟨rfl, hB1⟩
  go_wp2_with fail
  refine (itoa_any c hc.1 hc.2 b Hb _ (hT.go hB1)).mono ?_
  rintro e w2 ⟨rfl, hB2⟩
  have hBw := bgo hB1 hB2
  clear hB1 hB2
  go_wp2_with fail
  refine (join_at _ 6 6 [a, colon, label, b, blank, reason] t rfl Ht (by decide) (by decide) (by decide) hts _ (sl_cells (World.alloc_heap_new _ _) rfl rfl)).mono ?_
  rintro e w3 ⟨rfl, hB3⟩
  go_wp2_with fail
  go_ret
  exact ⟨rfl, bgo (bal hBw _) hB3⟩
end Go.Proofs.YtfjkmhbipkoefaaGreatDoor
namespace Go.Proofs.YtfjkmhbipkoefaaGreatDoor
open Go.RowKit Go.Shelf
set_option linter.unusedVariables false
set_option linter.unusedSimpArgs false
set_option maxRecDepth 100000
def I64 (x : Int) : Prop := -9223372036854775808 ≤ x ∧ x ≤ 9223372036854775807
def intV (xs : List Int) : List Value := xs.map fun x => Value.int .i64 x
theorem intV_get (xs : List Int) (j : Nat) (h : j < xs.length) : (intV xs)[j]? = some (.int .i64 (xs.getD j 0)) := by
  simp [intV, h, List.getD]
theorem intV_snoc (l : List Int) (x : Int) : intV (l ++ [x]) = intV l ++ [.int .i64 x] := by simp [intV]
theorem info_str : (Tryz.prog.info? 9).map (fun i => (i.zero, i.size, i.bytes)) = some (some (.string ⟨#[]⟩), 1, 16) := by kernel_rfl
theorem strV_snoc (l : List ByteArray) (x : ByteArray) : strV (l ++ [x]) = strV l ++ [.string x] := by simp [strV]
theorem itoas_snoc (xs : List Int) (k : Nat) (h : k < xs.length) : (xs.map itoaB).take (k + 1) = (xs.map itoaB).take k ++ [itoaB (xs.getD k 0)] := by
  rw [List.take_succ_eq_append_getElem (by simpa using h)]
  simp [List.getD, h]
/-- Numbers, separated by blanks. -/
def textI (xs : List Int) : ByteArray := ⟨(Lib.join (xs.map Lib.itoa) [32]).toArray⟩
theorem join_len (l : List (List UInt8)) (h : ∀ x ∈ l, x.length ≤ 21) : (Lib.join l [32]).length ≤ 22 * l.length := by
  match l with
  | [] => simp [Lib.join, List.intercalate]
  | [a] => have := h a (by simp); simp [Lib.join, List.intercalate]; omega
  | a :: b :: l =>
    have ih := join_len (b :: l) (fun x hx => h x (List.mem_cons_of_mem _ hx))
    have ha := h a (by simp)
    have e : Lib.join (a :: b :: l) [32] = a ++ [32] ++ Lib.join (b :: l) [32] := by
      unfold Lib.join List.intercalate
      simp [List.intersperse]
    rw [e]
    simp only [List.length_append, List.length_cons, List.length_nil] at ih ⊢
    omega
theorem textI_size (xs : List Int) (h : ∀ x ∈ xs, I64 x) : (textI xs).size ≤ 22 * xs.length := by
  have := join_len (xs.map Lib.itoa) (fun y hy => by
    obtain ⟨x, hx, rfl⟩ := List.mem_map.1 hy
    exact Lib.itoa_length_le x (h x hx).1 (h x hx).2)
  rw [List.length_map] at this
  show (Lib.join (xs.map Lib.itoa) [32]).toArray.size ≤ _
  simpa using this
/-- The text of a list. -/
def listedB (xs : List Int) : ByteArray := if xs.length = 0 then ⟨#[45]⟩ else textI xs
theorem listedB_size (xs : List Int) (h : ∀ x ∈ xs, I64 x) : (listedB xs).size ≤ 22 * xs.length + 1 := by
  unfold listedB
  split
  · have : (⟨#[45]⟩ : ByteArray).size = 1 := rfl
    omega
  · have := textI_size xs h
    omega
theorem slice_cap {W : World} {base : Nat} {e : TypeId} {size n : Nat} {A : Option Addr} {c : Nat} {xs : List Value} (h : W.ownsRow base e size (.slice A n c) n xs) : n ≤ c ∧ c ≤ maxLen := by
  rcases h.2 with ⟨h1, h0⟩ | ⟨g, cap', cur, h1, _, _, h2, h3, _⟩
  · injection h1 with _ _ h1
    subst h1 h0
    exact ⟨Nat.le_refl _, Nat.zero_le _⟩
  · injection h1 with _ _ h1
    subst h1
    exact ⟨h2, h3⟩
/-- The text of a day. -/
noncomputable def dayB (n : Int) : ByteArray := by
  classical
  exact if h : ∃ M, Cal.InM n.toNat M ∧ 0 ≤ n then ⟨(Cal.text (2000 + h.choose / 12) (h.choose % 12 + 1) (Cal.dom n.toNat h.choose)).toArray⟩ else ⟨#[]⟩
theorem dayB_eq {n M : Nat} (h : Cal.InM n M) : dayB (n : Int) = ⟨(Cal.text (2000 + M / 12) (M % 12 + 1) (Cal.dom n M)).toArray⟩ := by
  have hx : ∃ M, Cal.InM ((n : Int).toNat) M ∧ (0 : Int) ≤ (n : Int) := ⟨M, by simpa using h, by omega⟩
  unfold dayB
  rw [dif_pos hx]
  have hc : Cal.InM n hx.choose := hx.choose_spec.1
  have e : hx.choose = M := Cal.InM.unique hc h
  rw [e]
  rfl
theorem dayB_size (n : Int) : (dayB n).size ≤ 10 := by
  unfold dayB
  split
  · show (Cal.text _ _ _).toArray.size ≤ 10
    simp [Cal.text, Cal.four, Cal.two]
  · exact Nat.zero_le _
theorem itoa_at (n : Int) (t : ByteArray) (ht : Hid (itoaB n = t)) (hn : I64 n) (w : World) (hT : CaT.Tabs w) : Calls Tryz.prog 35 #[.int .i64 n] w fun e w' => e = .returned (.string t) ∧ Below w.heap.size w w' :=
  itoa_any n hn.1 hn.2 t ht w hT.2
/-- A declared line. -/
structure DeclD where
  name : ByteArray
  unit : ByteArray
  role : Int
def declV (d : DeclD) : List Value := [.string d.name, .string d.unit, .int .i64 d.role]
/-- A line of a result, with the places of its lists. -/
structure LineM where
  day : Int
  line : Int
  art : Int
  amt : Int
  FA : Option Addr
  fc : Nat
  facts : List Int
  RA : Option Addr
  rc : Nat
  rests : List Int
def lineV (x : LineM) : List Value := [.int .i64 x.day, .int .i64 x.line, .int .i64 x.art, .int .i64 x.amt, .slice x.FA x.facts.length x.fc, .slice x.RA x.rests.length x.rc]
/-- A row. -/
structure RowD where
  l : ByteArray
  c : Int
  r : ByteArray
def rowV (x : RowD) : List Value := [.string x.l, .int .i64 x.c, .string x.r]
def rowA (x : RowD) : Value := .agg #[.string x.l, .int .i64 x.c, .string x.r]
def rowsV (l : List RowD) : List Value := l.flatMap rowV
theorem flat_len {α : Type} (f : α → List Value) (k : Nat) (hf : ∀ x, (f x).length = k) (l : List α) : (l.flatMap f).length = l.length * k := by
  induction l with
  | nil => simp
  | cons a l ih => rw [List.flatMap_cons, List.length_append, ih, hf, List.length_cons, Nat.add_mul, Nat.one_mul, Nat.add_comm]
theorem flat_get {α : Type} (f : α → List Value) (k : Nat) (hf : ∀ x, (f x).length = k) (l : List α) : ∀ (i : Nat) (hi : i < l.length) (j : Nat), j < k → (l.flatMap f)[i * k + j]? = (f l[i])[j]? := by
  induction l with
  | nil => intro i hi; exact absurd hi (Nat.not_lt_zero i)
  | cons a l ih =>
    intro i hi j hj
    rw [List.flatMap_cons]
    cases i with
    | zero => rw [Nat.zero_mul, Nat.zero_add, List.getElem?_append_left (by rw [hf]; exact hj)]; rfl
    | succ i =>
      rw [List.getElem?_append_right (by rw [hf, Nat.add_mul, Nat.one_mul]; omega), hf, show (i + 1) * k + j - k = i * k + j by rw [Nat.add_mul, Nat.one_mul]; omega, ih i (by simpa using hi) j hj]
      rfl
/-- A case: what the payslip reads of it, and the rest as it is. -/
structure CaseM where
  f0 : Value
  LA : Option Addr
  lc : Nat
  ds : List DeclD
  AA : Option Addr
  ac : Nat
  nums : List Int
  v3 : Value
  v4 : Value
  v5 : Value
  v6 : Value
  cur : ByteArray
  fst : Int
def caseV (c : CaseM) : Value := .agg #[c.f0, .slice c.LA c.ds.length c.lc, .slice c.AA c.nums.length c.ac, c.v3, c.v4, c.v5, c.v6, .string c.cur, .int .i64 c.fst]
/-- The numbers of the articles lie in the world. -/
def ArtAt (W : World) (A : Option Addr) (nums : List Int) : Prop := 0 < nums.length → ∃ b off, A = some ⟨b, off, none⟩ ∧ b < W.heap.size ∧ ∀ k, k < nums.length → W.cell? ⟨b, off + k * 14, none⟩ = some (.int .i64 (nums.getD k 0))
theorem ArtAt.go {W W' : World} {A : Option Addr} {nums : List Int} (h : ArtAt W A nums) (k : Below W.heap.size W W') : ArtAt W' A nums := fun h0 => by
  obtain ⟨b, off, e, hb, hc⟩ := h h0
  exact ⟨b, off, e, Nat.lt_of_lt_of_le hb k.size, fun j hj => (k.cell (p := ⟨b, off + j * 14, none⟩) hb).trans (hc j hj)⟩
structure CaseOk (W : World) (c : CaseM) : Prop where
  ld : Sl W W.heap.size 3 c.LA c.ds.length (c.ds.flatMap declV)
  la : ArtAt W c.AA c.nums
  cd : c.ds.length ≤ maxLen
  ca : c.nums.length ≤ maxLen
  nu : ∀ x ∈ c.nums, I64 x
  nm : ∀ d ∈ c.ds, d.name.size ≤ 70000000000000
theorem CaseOk.go {W W' : World} {c : CaseM} (h : CaseOk W c) (k : Below W.heap.size W W') : CaseOk W' c := ⟨h.ld.go k, h.la.go k, h.cd, h.ca, h.nu, h.nm⟩
structure LineOk (W : World) (x : LineM) : Prop where
  sf : Sl W W.heap.size 1 x.FA x.facts.length (intV x.facts)
  sr : Sl W W.heap.size 1 x.RA x.rests.length (intV x.rests)
  lf : x.facts.length ≤ 1000
  lr : x.rests.length ≤ 1000
  bf : ∀ y ∈ x.facts, I64 y
  br : ∀ y ∈ x.rests, I64 y
  ba : I64 x.amt
theorem LineOk.go {W W' : World} {x : LineM} (h : LineOk W x) (k : Below W.heap.size W W') : LineOk W' x := ⟨h.sf.go k, h.sr.go k, h.lf, h.lr, h.bf, h.br, h.ba⟩
def tVersion : ByteArray := ⟨#[118, 101, 114, 115, 105, 111, 110, 32]⟩
def tArticle : ByteArray := ⟨#[32, 111, 102, 32, 97, 114, 116, 105, 99, 108, 101, 32]⟩
def tOn : ByteArray := ⟨#[32, 111, 110, 32]⟩
def tFacts : ByteArray := ⟨#[59, 32, 102, 97, 99, 116, 115, 32]⟩
def tVersions : ByteArray := ⟨#[59, 32, 118, 101, 114, 115, 105, 111, 110, 115, 32]⟩
/-- The reason of a line. -/
noncomputable def reasonB (nums : List Int) (x : LineM) : ByteArray := catB [tVersion, itoaB x.art, tArticle, itoaB (nums.getD x.art.toNat 0), tOn, dayB x.day, tFacts, listedB x.facts, tVersions, listedB x.rests]
theorem reasonB_size (nums : List Int) (x : LineM) (h1 : I64 x.art) (h2 : I64 (nums.getD x.art.toNat 0)) (hf : ∀ y ∈ x.facts, I64 y) (hr : ∀ y ∈ x.rests, I64 y) (lf : x.facts.length ≤ 1000) (lr : x.rests.length ≤ 1000) : (reasonB nums x).size ≤ 45000 := by
  have a1 := itoaB_size x.art h1.1 h1.2
  have a2 := itoaB_size _ h2.1 h2.2
  have a3 := dayB_size x.day
  have a4 := listedB_size x.facts hf
  have a5 := listedB_size x.rests hr
  rw [reasonB, catB_size]
  have e1 : tVersion.size = 8 := rfl
  have e2 : tArticle.size = 12 := rfl
  have e3 : tOn.size = 4 := rfl
  have e4 : tFacts.size = 8 := rfl
  have e5 : tVersions.size = 11 := rfl
  simp only [List.map_cons, List.map_nil, List.sum_cons, List.sum_nil, e1, e2, e3, e4, e5]
  omega
end Go.Proofs.YtfjkmhbipkoefaaGreatDoor
namespace Go.Proofs.YtfjkmhbipkoefaaGreatDoor
open Go.RowKit Go.Shelf
set_option linter.unusedVariables false
set_option linter.unusedSimpArgs false
set_option maxRecDepth 100000
def idxB (n m : Int) : Bool := decide (0 ≤ n ∧ n < m)
/-- A result, with the places of its lists. -/
structure SlipM where
  person : ByteArray
  month : Int
  LA : Option Addr
  lc : Nat
  lines : List LineM
  gross : Int
  tax : Int
  deduct : Int
  floor : Int
  TA : Option Addr
  tc : Nat
  taken : List (Int × Int)
  net : Int
def takenV (x : Int × Int) : List Value := [.int .i64 x.1, .int .i64 x.2]
def slipV (s : SlipM) : Value := .agg #[.string s.person, .int .i64 s.month, .slice s.LA s.lines.length s.lc, .int .i64 s.gross, .int .i64 s.tax, .int .i64 s.deduct, .int .i64 s.floor, .slice s.TA s.taken.length s.tc, .int .i64 s.net]
structure SlipOk (W : World) (s : SlipM) : Prop where
  sl : Sl W W.heap.size 6 s.LA s.lines.length (s.lines.flatMap lineV)
  st : Sl W W.heap.size 2 s.TA s.taken.length (s.taken.flatMap takenV)
  ln : ∀ x ∈ s.lines, LineOk W x
  pz : s.person.size ≤ 70000000000000
  mo : I64 s.month
  ll : s.lines.length ≤ 1000000
  lt : s.taken.length ≤ 1000000
  ti : ∀ x ∈ s.taken, I64 x.1 ∧ I64 x.2
  g0 : I64 s.gross
  g1 : I64 s.tax
  g2 : I64 s.deduct
  g3 : I64 s.floor
  g4 : I64 s.net
theorem SlipOk.go {W W' : World} {s : SlipM} (h : SlipOk W s) (k : Below W.heap.size W W') : SlipOk W' s := ⟨h.sl.go k, h.st.go k, fun x hx => (h.ln x hx).go k, h.pz, h.mo, h.ll, h.lt, h.ti, h.g0, h.g1, h.g2, h.g3, h.g4⟩
def lineFit (nd na : Nat) (x : LineM) : Bool := idxB x.day 36525 && idxB x.line nd && idxB x.art na && x.rests.all (fun r => idxB r na)
def fitsB (c : CaseM) (s : SlipM) : Bool := isNameB s.person && decide (0 ≤ s.month ∧ s.month ≤ 1199) && s.lines.all (lineFit c.ds.length c.nums.length)
end Go.Proofs.YtfjkmhbipkoefaaGreatDoor
namespace Go.Proofs.YtfjkmhbipkoefaaGreatDoor.Grp
def P : Nat := 2147483579
def Q : Nat := 1073741789
/-- No number from s to s + 2^k - 1 divides q. -/
def noDiv (q : Nat) : Nat → Nat → Bool
  | 0, s => q % s != 0
  | k + 1, s => noDiv q k s && noDiv q k (s + 2 ^ k)
theorem noDiv_spec (q : Nat) : ∀ k s, noDiv q k s = true → ∀ d, s ≤ d → d < s + 2 ^ k → q % d ≠ 0
  | 0, s, h, d, h1, h2 => by
    have hd : d = s := by simp at h2; omega
    subst hd
    simpa [noDiv] using h
  | k + 1, s, h, d, h1, h2 => by
    simp only [noDiv, Bool.and_eq_true] at h
    rw [Nat.pow_succ] at h2
    rcases Nat.lt_or_ge d (s + 2 ^ k) with h3 | h3
    · exact noDiv_spec q k s h.1 d h1 h3
    · exact noDiv_spec q k (s + 2 ^ k) h.2 d h3 (by omega)
theorem noDiv_Q : noDiv Q 15 2 = true := by decide +kernel
theorem small_Q (d : Nat) (h2 : 2 ≤ d) (h : d < 32768) : Q % d ≠ 0 := noDiv_spec Q 15 2 noDiv_Q d h2 (by have : (2 : Nat) ^ 15 = 32768 := rfl; omega)
theorem dvd_Q (d : Nat) (h : d ∣ Q) : d = 1 ∨ d = Q := by
  obtain ⟨e, he⟩ := h
  have hQ : Q = 1073741789 := rfl
  by_cases hd0 : d = 0
  · subst hd0; rw [hQ] at he; omega
  by_cases hd1 : d = 1
  · exact .inl hd1
  by_cases he0 : e = 0
  · subst he0; rw [hQ] at he; omega
  by_cases he1 : e = 1
  · subst he1; right; omega
  exfalso
  by_cases hds : d < 32768
  · exact small_Q d (by omega) hds (by rw [he]; exact Nat.mul_mod_right d e)
  · by_cases hes : e < 32768
    · exact small_Q e (by omega) hes (by rw [he]; exact Nat.mul_mod_left d e)
    · have : 32768 * 32768 ≤ d * e := Nat.mul_le_mul (by omega) (by omega)
      rw [← he, hQ] at this
      omega
def PrimeLike (q : Nat) : Prop := ∀ k, 0 < k → k < q → Nat.Coprime q k
theorem Q_prime : PrimeLike Q := fun k h0 h1 => by
  rcases dvd_Q (Nat.gcd Q k) (Nat.gcd_dvd_left Q k) with h | h
  · exact h
  · have := Nat.gcd_le_right (m := Q) (n := k) h0
    omega
/- Binomials. -/
def C : Nat → Nat → Nat
  | _, 0 => 1
  | 0, _ + 1 => 0
  | n + 1, k + 1 => C n k + C n (k + 1)
theorem C_zero (n : Nat) : C n 0 = 1 := by cases n <;> rfl
theorem C_gt : ∀ n k, n < k → C n k = 0
  | _, 0, h => absurd h (Nat.not_lt_zero _)
  | 0, _ + 1, _ => rfl
  | n + 1, k + 1, h => by rw [C, C_gt n k (by omega), C_gt n (k + 1) (by omega)]
theorem C_self : ∀ n, C n n = 1
  | 0 => rfl
  | n + 1 => by rw [C, C_self n, C_gt n (n + 1) (by omega)]
theorem absorb : ∀ n k, (k + 1) * C (n + 1) (k + 1) = (n + 1) * C n k
  | 0, 0 => rfl
  | 0, k + 1 => by
    rw [C_gt 1 (k + 2) (by omega), C_gt 0 (k + 1) (by omega)]; rfl
  | n + 1, 0 => by
    have h := absorb n 0
    have e : C (n + 1 + 1) (0 + 1) = C (n + 1) 0 + C (n + 1) (0 + 1) := rfl
    rw [C_zero] at h e
    rw [C_zero, e]
    omega
  | n + 1, k + 1 => by
    have h1 := absorb n (k + 1)
    have h2 := absorb n k
    have e : C (n + 2) (k + 2) = C (n + 1) (k + 1) + C (n + 1) (k + 2) := rfl
    have e2 : C (n + 1) (k + 1) = C n k + C n (k + 1) := rfl
    rw [e, Nat.mul_add, h1]
    have h3 : (k + 1 + 1) * C (n + 1) (k + 1) = (k + 1) * C (n + 1) (k + 1) + C (n + 1) (k + 1) := Nat.succ_mul _ _
    rw [h3, h2]
    have h4 : (n + 1 + 1) * C (n + 1) (k + 1) = (n + 1) * C (n + 1) (k + 1) + C (n + 1) (k + 1) := Nat.succ_mul _ _
    have h5 : (n + 1) * C (n + 1) (k + 1) = (n + 1) * C n k + (n + 1) * C n (k + 1) := by rw [e2, Nat.mul_add]
    omega
def sum (f : Nat → Nat) : Nat → Nat
  | 0 => 0
  | m + 1 => sum f m + f m
theorem sum_shift (f : Nat → Nat) : ∀ m, sum f (m + 1) = f 0 + sum (fun k => f (k + 1)) m
  | 0 => by simp [sum]
  | m + 1 => by rw [sum, sum_shift f m]; simp only [sum]; omega
theorem sum_add (f g : Nat → Nat) : ∀ m, sum (fun k => f k + g k) m = sum f m + sum g m
  | 0 => rfl
  | m + 1 => by simp only [sum]; rw [sum_add f g m]; omega
theorem sum_mul (a : Nat) (f : Nat → Nat) : ∀ m, a * sum f m = sum (fun k => a * f k) m
  | 0 => rfl
  | m + 1 => by simp only [sum]; rw [Nat.mul_add, sum_mul a f m]
theorem sum_congr (f g : Nat → Nat) (h : ∀ k, f k = g k) (m : Nat) : sum f m = sum g m := by rw [funext h]
theorem binomial (a : Nat) : ∀ n, (a + 1) ^ n = sum (fun k => C n k * a ^ k) (n + 1)
  | 0 => by simp [sum, C]
  | n + 1 => by
    rw [Nat.pow_succ, binomial a n, sum_shift (fun k => C (n + 1) k * a ^ k) (n + 1)]
    have h1 : sum (fun k => C (n + 1) (k + 1) * a ^ (k + 1)) (n + 1) = a * sum (fun k => C n k * a ^ k) (n + 1) + sum (fun k => C n (k + 1) * a ^ (k + 1)) (n + 1) := by
      rw [sum_mul, ← sum_add]
      refine sum_congr _ _ (fun k => ?_) _
      rw [C, Nat.add_mul, Nat.pow_succ, ← Nat.mul_assoc a, Nat.mul_comm a (C n k), Nat.mul_assoc (C n k) a, Nat.mul_comm a (a ^ k)]
    have h2 : sum (fun k => C n k * a ^ k) (n + 1 + 1) = C n 0 * a ^ 0 + sum (fun k => C n (k + 1) * a ^ (k + 1)) (n + 1) := sum_shift _ _
    have h3 : sum (fun k => C n k * a ^ k) (n + 1 + 1) = sum (fun k => C n k * a ^ k) (n + 1) + C n (n + 1) * a ^ (n + 1) := rfl
    rw [C_gt n (n + 1) (by omega), Nat.zero_mul] at h3
    rw [h1, C_zero]
    rw [C_zero] at h2
    rw [Nat.mul_add, Nat.mul_one, Nat.mul_comm _ a]
    omega
theorem dvd_C (q : Nat) (hq : PrimeLike q) (k : Nat) (h0 : 0 < k) (h1 : k < q) : q ∣ C q k := by
  obtain ⟨j, rfl⟩ : ∃ j, k = j + 1 := ⟨k - 1, by omega⟩
  obtain ⟨n, rfl⟩ : ∃ n, q = n + 1 := ⟨q - 1, by omega⟩
  refine (hq (j + 1) h0 h1).dvd_of_dvd_mul_left ?_
  rw [absorb n j]
  exact Nat.dvd_mul_right _ _
theorem sum_dvd (q : Nat) (f : Nat → Nat) : ∀ m, (∀ k, k < m → q ∣ f k) → q ∣ sum f m
  | 0, _ => Nat.dvd_zero q
  | m + 1, h => Nat.dvd_add (sum_dvd q f m (fun k hk => h k (by omega))) (h m (by omega))
theorem dream (q a : Nat) (hq : PrimeLike q) (h2 : 2 ≤ q) : (a + 1) ^ q % q = (a ^ q + 1) % q := by
  obtain ⟨n, rfl⟩ : ∃ n, q = n + 1 := ⟨q - 1, by omega⟩
  rw [binomial, sum, sum_shift, C_self, C_zero]
  obtain ⟨c, hc⟩ := sum_dvd (n + 1) (fun k => C (n + 1) (k + 1) * a ^ (k + 1)) n (fun k hk => Nat.dvd_trans (dvd_C (n + 1) hq (k + 1) (by omega) (by omega)) (Nat.dvd_mul_right _ _))
  rw [hc, Nat.pow_zero, Nat.one_mul, Nat.one_mul, Nat.add_right_comm, Nat.add_mul_mod_self_left, Nat.add_comm 1]
theorem fermat (q : Nat) (hq : PrimeLike q) (h2 : 2 ≤ q) : ∀ a, a ^ q % q = a % q
  | 0 => by rw [Nat.zero_pow (by omega)]
  | a + 1 => by rw [dream q a hq h2, Nat.add_mod, fermat q hq h2 a, ← Nat.add_mod]
/-- The inverse modulo q. -/
theorem inv_Q (a : Nat) (h0 : 0 < a) (h1 : a < Q) : a * a ^ (Q - 2) % Q = 1 := by
  obtain ⟨q, hq⟩ : ∃ q, q = Q := ⟨_, rfl⟩
  have h2 : 3 ≤ q := by rw [hq]; decide
  have hp : PrimeLike q := hq ▸ Q_prime
  rw [← hq] at h1 ⊢
  clear hq
  have hf := fermat q hp (by omega) a
  have e : a ^ q = a * (a * a ^ (q - 2)) := by
    obtain ⟨n, rfl⟩ : ∃ n, q = n + 2 := ⟨q - 2, by omega⟩
    rw [show n + 2 - 2 = n by omega, Nat.pow_succ, Nat.pow_succ]
    rw [Nat.mul_comm (a ^ n * a) a, Nat.mul_comm (a ^ n) a]
  rw [e] at hf
  obtain ⟨x, hx⟩ : ∃ x, x = a * a ^ (q - 2) := ⟨_, rfl⟩
  rw [← hx] at hf ⊢
  have hx1 : 1 ≤ x := by rw [hx]; exact Nat.mul_pos h0 (Nat.pow_pos h0)
  have hd : q ∣ a * (x - 1) := by
    have : a ≤ a * x := Nat.le_mul_of_pos_right a hx1
    rw [Nat.mul_sub, Nat.mul_one]
    exact (Nat.dvd_iff_mod_eq_zero ..).2 (Nat.sub_mod_eq_zero_of_mod_eq hf)
  have := (hp a h0 h1).dvd_of_dvd_mul_left hd
  obtain ⟨c, hc⟩ := this
  rw [show x = 1 + q * c by omega, Nat.add_mul_mod_self_left, Nat.mod_eq_of_lt (by omega)]
end Go.Proofs.YtfjkmhbipkoefaaGreatDoor.Grp
namespace Go.Proofs.YtfjkmhbipkoefaaGreatDoor.Grp
def pw (b e : Nat) : Nat := b ^ e % P
/-- Square and multiply: r * b^e modulo p. -/
def sqm : Nat → Nat → Nat → Nat → Nat
  | 0, r, _, _ => r
  | f + 1, r, b, e => if e = 0 then r else sqm f (if e % 2 = 1 then r * b % P else r) (b * b % P) (e / 2)
theorem P_pos : 0 < P := by decide
theorem mul_pw (r b e : Nat) : r * (b * b % P) ^ e % P = r * b ^ (2 * e) % P := by
  rw [Nat.mul_mod, ← Nat.pow_mod, ← Nat.mul_mod, Nat.pow_mul, Nat.pow_two]
theorem step_pw (r b e : Nat) : (if e % 2 = 1 then r * b % P else r) * (b * b % P) ^ (e / 2) % P = r * b ^ e % P := by
  rw [mul_pw]
  by_cases h : e % 2 = 1
  · rw [if_pos h, Nat.mod_mul_mod, Nat.mul_assoc, ← Nat.pow_succ']
    rw [show (2 * (e / 2)).succ = e by omega]
  · rw [if_neg h, show 2 * (e / 2) = e by omega]
theorem sqm_eq : ∀ f r b e, r < P → e < 2 ^ f → sqm f r b e = r * b ^ e % P
  | 0, r, b, e, hr, he => by
    have : e = 0 := by simp at he; exact he
    subst this
    rw [sqm, Nat.pow_zero, Nat.mul_one, Nat.mod_eq_of_lt hr]
  | f + 1, r, b, e, hr, he => by
    rw [sqm]
    by_cases h0 : e = 0
    · subst h0
      rw [if_pos rfl, Nat.pow_zero, Nat.mul_one, Nat.mod_eq_of_lt hr]
    · rw [if_neg h0, sqm_eq f _ _ _ _ (by rw [Nat.pow_succ] at he; omega), step_pw]
      split
      · exact Nat.mod_lt _ P_pos
      · exact hr
theorem four_Q : 4 ^ Q % P = 1 := by
  have h : sqm 31 1 4 Q = 1 := by decide +kernel
  rw [sqm_eq 31 1 4 Q (by decide) (by decide +kernel), Nat.one_mul] at h
  exact h
theorem nine_Q : 9 ^ Q % P = 1 := by
  have h : sqm 31 1 9 Q = 1 := by decide +kernel
  rw [sqm_eq 31 1 9 Q (by decide) (by decide +kernel), Nat.one_mul] at h
  exact h
/-- An element of the group. -/
def El (x : Nat) : Prop := x ^ Q % P = 1
theorem El.mul {x y : Nat} (hx : El x) (hy : El y) : El (x * y % P) := by
  unfold El at *
  rw [← Nat.pow_mod, Nat.mul_pow, Nat.mul_mod, hx, hy]; decide
theorem El.pow {x : Nat} (hx : El x) (e : Nat) : El (x ^ e % P) := by
  unfold El at *
  rw [← Nat.pow_mod, ← Nat.pow_mul, Nat.mul_comm, Nat.pow_mul, Nat.pow_mod, hx, Nat.one_pow]; decide
theorem El.red {x : Nat} (hx : El x) (e : Nat) : x ^ e % P = x ^ (e % Q) % P := by
  unfold El at hx
  have h : x ^ e = (x ^ Q) ^ (e / Q) * x ^ (e % Q) := by rw [← Nat.pow_mul, ← Nat.pow_add, Nat.div_add_mod]
  rw [h, Nat.mul_mod, Nat.pow_mod, hx, Nat.one_pow, ← Nat.mul_mod, Nat.one_mul]
theorem El.inv {x : Nat} (hx : El x) : x * (x ^ (Q - 1) % P) % P = 1 := by
  unfold El at hx
  rw [Nat.mul_mod_mod, ← Nat.pow_succ', show (Q - 1).succ = Q from rfl, hx]
theorem El.cancel {f : Nat} (hf : El f) {a b : Nat} (h : f * a % P = f * b % P) : a % P = b % P := by
  have hi := hf.inv
  obtain ⟨g, hg⟩ : ∃ g, f ^ (Q - 1) % P = g := ⟨_, rfl⟩
  rw [hg] at hi
  have h1 : ∀ a, g * (f * a % P) % P = a % P := fun a => by
    rw [Nat.mul_mod_mod, ← Nat.mul_assoc, Nat.mul_comm g f, Nat.mul_mod, hi, Nat.one_mul, Nat.mod_mod]
  rw [← h1 a, ← h1 b, h]
theorem El.order {x : Nat} (hx : El x) (d : Nat) (h0 : 0 < d) (h1 : d < Q) (h : x ^ d % P = 1) : x % P = 1 := by
  have hr := hx.red (d * d ^ (Q - 2))
  rw [inv_Q d h0 h1, Nat.pow_one, Nat.pow_mul, Nat.pow_mod, h, Nat.one_pow] at hr
  rw [← hr]; decide
theorem El.inj {x : Nat} (hx : El x) (hx1 : x % P ≠ 1) {i j : Nat} (hi : i < Q) (hj : j < Q) (h : x ^ i % P = x ^ j % P) : i = j := by
  have key : ∀ i j, i < j → j < Q → x ^ i % P = x ^ j % P → False := fun i j hij hj h => by
    have e : x ^ j = x ^ i * x ^ (j - i) := by rw [← Nat.pow_add, show i + (j - i) = j by omega]
    rw [e] at h
    have hE : El (x ^ i) := by have := hx.pow i; unfold El at this ⊢; rwa [← Nat.pow_mod] at this
    have h2 : (1 : Nat) % P = x ^ (j - i) % P := hE.cancel (by rw [Nat.mul_one]; exact h)
    exact hx1 (hx.order (j - i) (by omega) (by omega) (by rw [← h2]; decide))
  rcases Nat.lt_trichotomy i j with h1 | h1 | h1
  · exact (key i j h1 hj h).elim
  · exact h1
  · exact (key j i h1 hi h.symm).elim
theorem el_4 : El 4 := four_Q
theorem el_9 : El 9 := nine_Q
theorem nine_1 : 9 % P ≠ 1 := by decide
end Go.Proofs.YtfjkmhbipkoefaaGreatDoor.Grp
