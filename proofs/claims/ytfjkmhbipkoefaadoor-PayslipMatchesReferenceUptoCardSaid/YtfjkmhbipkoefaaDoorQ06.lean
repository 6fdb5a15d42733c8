/- The data of payslip in plain words; the walks of listed and reason. -/
import Derived.Test.YtfjkmhbipkoefaaDoorQ05
import Derived.Deep.RegionHeld
import Derived.Lib.Join
import Derived.Deep.DeepCutAuto
namespace Go.Proofs.YtfjkmhbipkoefaaDoor
open Go.RowKit Go.Shelf
set_option linter.unusedVariables false
set_option linter.unusedSimpArgs false
set_option maxRecDepth 100000
def I64 (x : Int) : Prop := -9223372036854775808 ≤ x ∧ x ≤ 9223372036854775807
def intV (xs : List Int) : List Value := xs.map fun x => Value.int .i64 x
theorem intV_get (xs : List Int) (j : Nat) (h : j < xs.length) : (intV xs)[j]? = some (.int .i64 (xs.getD j 0)) := by
  simp [intV, h, List.getD]
theorem intV_snoc (l : List Int) (x : Int) : intV (l ++ [x]) = intV l ++ [.int .i64 x] := by simp [intV]
theorem info_str : (Tryd.prog.info? 9).map (fun i => (i.zero, i.size, i.bytes)) = some (some (.string ⟨#[]⟩), 1, 16) := by kernel_rfl
theorem strV_snoc (l : List ByteArray) (x : ByteArray) : strV (l ++ [x]) = strV l ++ [.string x] := by simp [strV]
theorem itoas_snoc (xs : List Int) (k : Nat) (h : k < xs.length) : (xs.map itoaB).take (k + 1) = (xs.map itoaB).take k ++ [itoaB (xs.getD k 0)] := by
  rw [List.take_succ_eq_append_getElem (by simpa using h)]
  simp [List.getD, h]
/-- Numbers, separated by blanks. -/
def textI (xs : List Int) : ByteArray := ⟨(Lib.join (xs.map Lib.itoa) [32]).toArray⟩
theorem join_len (l : List (List UInt8)) (h : ∀ x ∈ l, x.length ≤ 21) : (Lib.join l [32]).length ≤ 22 * l.length := by
  match l with
  | [] => simp [Lib.join, List.intercalate]
  | [a] => have := h a (by simp); simp [Lib.join, List.intercalate]; omega
  | a :: b :: l =>
    have ih := join_len (b :: l) (fun x hx => h x (List.mem_cons_of_mem _ hx))
    have ha := h a (by simp)
    have e : Lib.join (a :: b :: l) [32] = a ++ [32] ++ Lib.join (b :: l) [32] := by
      unfold Lib.join List.intercalate
      simp [List.intersperse]
    rw [e]
    simp only [List.length_append, List.length_cons, List.length_nil] at ih ⊢
    omega
theorem textI_size (xs : List Int) (h : ∀ x ∈ xs, I64 x) : (textI xs).size ≤ 22 * xs.length := by
  have := join_len (xs.map Lib.itoa) (fun y hy => by
    obtain ⟨x, hx, rfl⟩ := List.mem_map.1 hy
    exact Lib.itoa_length_le x (h x hx).1 (h x hx).2)
  rw [List.length_map] at this
  show (Lib.join (xs.map Lib.itoa) [32]).toArray.size ≤ _
  simpa using this
/-- The text of a list. -/
def listedB (xs : List Int) : ByteArray := if xs.length = 0 then ⟨#[45]⟩ else textI xs
theorem listedB_size (xs : List Int) (h : ∀ x ∈ xs, I64 x) : (listedB xs).size ≤ 22 * xs.length + 1 := by
  unfold listedB
  split
  · have : (⟨#[45]⟩ : ByteArray).size = 1 := rfl
    omega
  · have := textI_size xs h
    omega
theorem slice_cap {W : World} {base : Nat} {e : TypeId} {size n : Nat} {A : Option Addr} {c : Nat} {xs : List Value} (h : W.ownsRow base e size (.slice A n c) n xs) : n ≤ c ∧ c ≤ maxLen := by
  rcases h.2 with ⟨h1, h0⟩ | ⟨g, cap', cur, h1, _, _, h2, h3, _⟩
  · injection h1 with _ _ h1
    subst h1 h0
    exact ⟨Nat.le_refl _, Nat.zero_le _⟩
  · injection h1 with _ _ h1
    subst h1
    exact ⟨h2, h3⟩
set_option maxHeartbeats 2000000 in
theorem listed_some (A : Option Addr) (c : Nat) (xs : List Int) (w : World) (hT : PTab w) (hA : Sl w w.heap.size 1 A xs.length (intV xs)) (h1 : 1 ≤ xs.length) (hn : xs.length ≤ 1000)
    (hx : ∀ x ∈ xs, -9223372036854775808 ≤ x ∧ x ≤ 9223372036854775807) (hlen : (Lib.join (xs.map Lib.itoa) [32]).length ≤ 140737488355328) :
    Calls Tryd.prog 59 #[.slice A xs.length c, .func (.func 26) #[] #[]] w fun e w' => e = .returned (.string (textI xs)) ∧ Below w.heap.size w w' := by
  obtain ⟨i0, hi0, hz0, hz1, hz2⟩ := info_parts info_str
  have HT := Lib.hid hT
  have Hx := Lib.hid hx
  have HL := Lib.hid hlen
  have HA := Lib.hid hA
  clear hT hx hlen hA
  have hne : ((xs.length : Int) == 0) = false := beq_eq_false_iff_ne.2 (by omega)
  go_enter Tryd.func59, Tryd.ntmps59
  go_wp2_with fail
  go_loopw [5, 13] (fun v i wr => ∃ k : Nat, k ≤ xs.length ∧ i = .int .i64 k ∧ wr.ownsRow w.heap.size 9 1 v k (strV ((xs.map itoaB).take k)) ∧ Below w.heap.size w wr) (fun _ i _ => xs.length - (intOf i).toNat)
  case atStart => exact ⟨0, Nat.zero_le _, rfl, ⟨rfl, .inl ⟨rfl, rfl⟩⟩, Below.refl _ _⟩
  case round =>
    obtain ⟨k, hk, rfl, hown, hB⟩ := hrel
    have Hown := Lib.hid hown
    clear hown
    by_cases hlt : k < xs.length
    · obtain ⟨b, off, rfl, hb, hcell⟩ := (HA.out).2 (by omega)
      have hc : wr.cell? ⟨b, off + k, none⟩ = some (.int .i64 (xs.getD k 0)) := (hB.cell (p := ⟨b, off + k, none⟩) hb).trans (hcell k _ (intV_get xs k hlt))
      have hmem : xs.getD k 0 ∈ xs := by simp [List.getD, hlt]
      have hbd := Hx.out _ hmem
      have HS := Lib.hid (itoas_snoc xs k hlt)
      obtain ⟨x, hxe⟩ : ∃ x, xs.getD k 0 = x := ⟨_, rfl⟩
      rw [hxe] at hc hbd HS
      obtain ⟨t, ht⟩ : ∃ t, itoaB x = t := ⟨_, rfl⟩
      rw [ht] at HS
      have Ht := Lib.hid ht
      clear hcell hmem hxe ht
      go_wp2_with fail
      refine (itoa_any x hbd.1 hbd.2 t Ht _ (HT.out.go hB)).mono ?_
      rintro e w1 ⟨rfl, hB1⟩
      have hBn := bgo hB hB1
      have Hown1 := Lib.hid (own_below Hown.out hB1)
      go_wp2_with (at_builtin; refine app_one rfl _ _ 88 rfl 9 i0 (.string ⟨#[]⟩) 1 16 Tryd.underlying88 hi0 hz0 hz1 hz2 rfl (by decide) _ k _ rfl Hown1.out hBn [.string t] _ _ rfl rfl (by simp [Value.oneCell']) (by unfold maxLen; omega) (by omega) ?_)
      intro v' w2 hown2 hB2 _
      have HO := Lib.hid hown2
      clear hown2 hB hB1 hBn
      go_wp2
      go_roundw
      case rel => exact ⟨k + 1, by omega, by go_num, by rw [HS.out, strV_snoc]; exact HO.out, hB2⟩
      case measure => simp [intOf]; omega
    · obtain rfl : k = xs.length := by omega
      have hE : (xs.map itoaB).take xs.length = xs.map itoaB := List.take_of_length_le (by simp)
      rw [hE] at Hown
      obtain ⟨g, cap, hv⟩ : ∃ g cap, u5 = .slice (some ⟨g, 0, none⟩) xs.length cap := by
        obtain ⟨n', hn'⟩ : ∃ n', xs.length = n' + 1 := ⟨xs.length - 1, by omega⟩
        have := Hown.out
        rw [hn'] at this ⊢
        exact ownsRow_succ this
      subst hv
      clear hE
      have hgl := Hown.out.lt g rfl
      have hcl : ∀ (j : Nat) y, (xs.map itoaB)[j]? = some y → wr.cell? ⟨g, 0 + j, none⟩ = some (.string y) := by
        intro j y hy
        rw [Nat.zero_add]
        have hj : j < xs.length := by
          have := (List.getElem?_eq_some_iff.1 hy).1
          simp at this; omega
        have := Hown.out.cellAt j (by omega)
        rw [this]
        simp only [strV, List.getElem?_map] at hy ⊢
        cases hq : xs[j]? with
        | none => rw [hq] at hy; cases hy
        | some q => rw [hq] at hy; simp at hy ⊢; rw [hy]
      have hmap : (xs.map itoaB).map (fun x => x.data.toList) = xs.map Lib.itoa := by
        rw [List.map_map]
        exact List.map_congr_left (fun x _ => rfl)
      have hcapk : xs.length ≤ cap := by
        rcases Hown.out.2 with ⟨h0, _⟩ | ⟨g', cap', cur, hv, h1', h2', h3', h4', _⟩
        · cases h0
        · cases hv; exact h3'
      have hcal := Tryd.strings_Join g 0 cap (xs.map itoaB) ⟨#[32]⟩ wr hcl hgl.2 (by simp; omega) (by simp; omega) (by rw [hmap]; exact HL.out)
      have hfin : (⟨(Lib.join ((xs.map itoaB).map (fun x => x.data.toList)) (⟨#[32]⟩ : ByteArray).data.toList).toArray⟩ : ByteArray) = textI xs := by rw [hmap]; rfl
      rw [hfin, List.length_map] at hcal
      have HC := Lib.hid hcal
      clear hcal hfin hcapk hmap hcl
      go_wp2_with fail
      refine HC.out.mono ?_
      rintro e w2 ⟨rfl, hB2⟩
      go_wp2
      go_ret
      exact ⟨rfl, bgo hB hB2⟩
theorem listed_any (A : Option Addr) (c n : Nat) (xs : List Int) (t : ByteArray) (hxn : xs.length = n) (ht : Hid (listedB xs = t)) (w : World) (hT : PTab w) (hA : Sl w w.heap.size 1 A n (intV xs)) (hn : n ≤ 1000) (hx : ∀ x ∈ xs, I64 x) :
    Calls Tryd.prog 59 #[.slice A n c, .func (.func 26) #[] #[]] w fun e w' => e = .returned (.string t) ∧ Below w.heap.size w w' := by
  subst hxn
  rw [← ht.out]
  unfold listedB
  by_cases h0 : xs.length = 0
  · rw [if_pos h0, h0]
    go_enter Tryd.func59, Tryd.ntmps59
    go_wp2
    go_ret
    exact ⟨rfl, Below.refl _ _⟩
  · rw [if_neg h0]
    refine listed_some A c xs w hT hA (by omega) hn hx ?_
    have := join_len (xs.map Lib.itoa) (fun y hy => by
      obtain ⟨x, hx', rfl⟩ := List.mem_map.1 hy
      exact Lib.itoa_length_le x (hx x hx').1 (hx x hx').2)
    rw [List.length_map] at this
    omega
/-- The text of a day. -/
noncomputable def dayB (n : Int) : ByteArray := by
  classical
  exact if h : ∃ M, Cal.InM n.toNat M ∧ 0 ≤ n then ⟨(Cal.text (2000 + h.choose / 12) (h.choose % 12 + 1) (Cal.dom n.toNat h.choose)).toArray⟩ else ⟨#[]⟩
theorem dayB_eq {n M : Nat} (h : Cal.InM n M) : dayB (n : Int) = ⟨(Cal.text (2000 + M / 12) (M % 12 + 1) (Cal.dom n M)).toArray⟩ := by
  have hx : ∃ M, Cal.InM ((n : Int).toNat) M ∧ (0 : Int) ≤ (n : Int) := ⟨M, by simpa using h, by omega⟩
  unfold dayB
  rw [dif_pos hx]
  have hc : Cal.InM n hx.choose := hx.choose_spec.1
  have e : hx.choose = M := Cal.InM.unique hc h
  rw [e]
  rfl
theorem dayB_size (n : Int) : (dayB n).size ≤ 10 := by
  unfold dayB
  split
  · show (Cal.text _ _ _).toArray.size ≤ 10
    simp [Cal.text, Cal.four, Cal.two]
  · exact Nat.zero_le _
theorem caltext_any (n : Int) (t : ByteArray) (ht : Hid (dayB n = t)) (h0 : 0 ≤ n) (h1 : n ≤ 36524) (w : World) (hT : CaT.Tabs w) : Calls Tryd.prog 58 #[.int .i64 n] w fun e w' => e = .returned (.string t) ∧ Below w.heap.size w w' := by
  obtain ⟨k, rfl⟩ := Int.eq_ofNat_of_zero_le h0
  obtain ⟨M, hM⟩ := Cal.exists_month k (by omega)
  rw [← ht.out, dayB_eq hM]
  exact CaT.text_ok k M _ _ _ hM rfl rfl rfl w hT
theorem itoa_at (n : Int) (t : ByteArray) (ht : Hid (itoaB n = t)) (hn : I64 n) (w : World) (hT : CaT.Tabs w) : Calls Tryd.prog 26 #[.int .i64 n] w fun e w' => e = .returned (.string t) ∧ Below w.heap.size w w' :=
  itoa_any n hn.1 hn.2 t ht w hT.2
theorem listed_at (A : Option Addr) (c n : Nat) (xs : List Int) (t : ByteArray) (hxn : xs.length = n) (ht : Hid (listedB xs = t)) (w : World) (hT : CaT.Tabs w) (hA : Sl w w.heap.size 1 A n (intV xs)) (hn : n ≤ 1000) (hx : ∀ x ∈ xs, I64 x) :
    Calls Tryd.prog 59 #[.slice A n c, .func (.func 26) #[] #[]] w fun e w' => e = .returned (.string t) ∧ Below w.heap.size w w' := listed_any A c n xs t hxn ht w hT.2 hA hn hx
/-- A declared line. -/
structure DeclD where
  name : ByteArray
  unit : ByteArray
  role : Int
def declV (d : DeclD) : List Value := [.string d.name, .string d.unit, .int .i64 d.role]
/-- A line of a result, with the places of its lists. -/
structure LineM where
  day : Int
  line : Int
  art : Int
  amt : Int
  FA : Option Addr
  fc : Nat
  facts : List Int
  RA : Option Addr
  rc : Nat
  rests : List Int
def lineV (x : LineM) : List Value := [.int .i64 x.day, .int .i64 x.line, .int .i64 x.art, .int .i64 x.amt, .slice x.FA x.facts.length x.fc, .slice x.RA x.rests.length x.rc]
/-- A row. -/
structure RowD where
  l : ByteArray
  c : Int
  r : ByteArray
def rowV (x : RowD) : List Value := [.string x.l, .int .i64 x.c, .string x.r]
def rowA (x : RowD) : Value := .agg #[.string x.l, .int .i64 x.c, .string x.r]
def rowsV (l : List RowD) : List Value := l.flatMap rowV
theorem flat_len {α : Type} (f : α → List Value) (k : Nat) (hf : ∀ x, (f x).length = k) (l : List α) : (l.flatMap f).length = l.length * k := by
  induction l with
  | nil => simp
  | cons a l ih => rw [List.flatMap_cons, List.length_append, ih, hf, List.length_cons, Nat.add_mul, Nat.one_mul, Nat.add_comm]
theorem flat_get {α : Type} (f : α → List Value) (k : Nat) (hf : ∀ x, (f x).length = k) (l : List α) : ∀ (i : Nat) (hi : i < l.length) (j : Nat), j < k → (l.flatMap f)[i * k + j]? = (f l[i])[j]? := by
  induction l with
  | nil => intro i hi; exact absurd hi (Nat.not_lt_zero i)
  | cons a l ih =>
    intro i hi j hj
    rw [List.flatMap_cons]
    cases i with
    | zero => rw [Nat.zero_mul, Nat.zero_add, List.getElem?_append_left (by rw [hf]; exact hj)]; rfl
    | succ i =>
      rw [List.getElem?_append_right (by rw [hf, Nat.add_mul, Nat.one_mul]; omega), hf, show (i + 1) * k + j - k = i * k + j by rw [Nat.add_mul, Nat.one_mul]; omega, ih i (by simpa using hi) j hj]
      rfl
/-- A case: what the payslip reads of it, and the rest as it is. -/
structure CaseM where
  f0 : Value
  LA : Option Addr
  lc : Nat
  ds : List DeclD
  AA : Option Addr
  ac : Nat
  nums : List Int
  v3 : Value
  v4 : Value
  v5 : Value
  v6 : Value
  cur : ByteArray
  fst : Int
def caseV (c : CaseM) : Value := .agg #[c.f0, .slice c.LA c.ds.length c.lc, .slice c.AA c.nums.length c.ac, c.v3, c.v4, c.v5, c.v6, .string c.cur, .int .i64 c.fst]
/-- The numbers of the articles lie in the world. -/
def ArtAt (W : World) (A : Option Addr) (nums : List Int) : Prop := 0 < nums.length → ∃ b off, A = some ⟨b, off, none⟩ ∧ b < W.heap.size ∧ ∀ k, k < nums.length → W.cell? ⟨b, off + k * 14, none⟩ = some (.int .i64 (nums.getD k 0))
theorem ArtAt.go {W W' : World} {A : Option Addr} {nums : List Int} (h : ArtAt W A nums) (k : Below W.heap.size W W') : ArtAt W' A nums := fun h0 => by
  obtain ⟨b, off, e, hb, hc⟩ := h h0
  exact ⟨b, off, e, Nat.lt_of_lt_of_le hb k.size, fun j hj => (k.cell (p := ⟨b, off + j * 14, none⟩) hb).trans (hc j hj)⟩
structure CaseOk (W : World) (c : CaseM) : Prop where
  ld : Sl W W.heap.size 3 c.LA c.ds.length (c.ds.flatMap declV)
  la : ArtAt W c.AA c.nums
  cd : c.ds.length ≤ maxLen
  ca : c.nums.length ≤ maxLen
  nu : ∀ x ∈ c.nums, I64 x
  nm : ∀ d ∈ c.ds, d.name.size ≤ 70000000000000
theorem CaseOk.go {W W' : World} {c : CaseM} (h : CaseOk W c) (k : Below W.heap.size W W') : CaseOk W' c := ⟨h.ld.go k, h.la.go k, h.cd, h.ca, h.nu, h.nm⟩
structure LineOk (W : World) (x : LineM) : Prop where
  sf : Sl W W.heap.size 1 x.FA x.facts.length (intV x.facts)
  sr : Sl W W.heap.size 1 x.RA x.rests.length (intV x.rests)
  lf : x.facts.length ≤ 1000
  lr : x.rests.length ≤ 1000
  bf : ∀ y ∈ x.facts, I64 y
  br : ∀ y ∈ x.rests, I64 y
  ba : I64 x.amt
theorem LineOk.go {W W' : World} {x : LineM} (h : LineOk W x) (k : Below W.heap.size W W') : LineOk W' x := ⟨h.sf.go k, h.sr.go k, h.lf, h.lr, h.bf, h.br, h.ba⟩
def tVersion : ByteArray := ⟨#[118, 101, 114, 115, 105, 111, 110, 32]⟩
def tArticle : ByteArray := ⟨#[32, 111, 102, 32, 97, 114, 116, 105, 99, 108, 101, 32]⟩
def tOn : ByteArray := ⟨#[32, 111, 110, 32]⟩
def tFacts : ByteArray := ⟨#[59, 32, 102, 97, 99, 116, 115, 32]⟩
def tVersions : ByteArray := ⟨#[59, 32, 118, 101, 114, 115, 105, 111, 110, 115, 32]⟩
/-- The reason of a line. -/
noncomputable def reasonB (nums : List Int) (x : LineM) : ByteArray := catB [tVersion, itoaB x.art, tArticle, itoaB (nums.getD x.art.toNat 0), tOn, dayB x.day, tFacts, listedB x.facts, tVersions, listedB x.rests]
theorem reasonB_size (nums : List Int) (x : LineM) (h1 : I64 x.art) (h2 : I64 (nums.getD x.art.toNat 0)) (hf : ∀ y ∈ x.facts, I64 y) (hr : ∀ y ∈ x.rests, I64 y) (lf : x.facts.length ≤ 1000) (lr : x.rests.length ≤ 1000) : (reasonB nums x).size ≤ 45000 := by
  have a1 := itoaB_size x.art h1.1 h1.2
  have a2 := itoaB_size _ h2.1 h2.2
  have a3 := dayB_size x.day
  have a4 := listedB_size x.facts hf
  have a5 := listedB_size x.rests hr
  rw [reasonB, catB_size]
  have e1 : tVersion.size = 8 := rfl
  have e2 : tArticle.size = 12 := rfl
  have e3 : tOn.size = 4 := rfl
  have e4 : tFacts.size = 8 := rfl
  have e5 : tVersions.size = 11 := rfl
  simp only [List.map_cons, List.map_nil, List.sum_cons, List.sum_nil, e1, e2, e3, e4, e5]
  omega
set_option maxHeartbeats 2000000 in
theorem reason_any (c : CaseM) (x : LineM) (t : ByteArray) (ht : Hid (reasonB c.nums x = t)) (w : World) (hT : CaT.Tabs w) (hc : CaseOk w c) (hx : LineOk w x) (hd0 : 0 ≤ x.day) (hd1 : x.day ≤ 36524) (ha0 : 0 ≤ x.art) (ha1 : x.art < (c.nums.length : Int)) :
    Calls Tryd.prog 40 #[caseV c, .agg #[.int .i64 x.day, .int .i64 x.line, .int .i64 x.art, .int .i64 x.amt, .slice x.FA x.facts.length x.fc, .slice x.RA x.rests.length x.rc]] w fun e w' => e = .returned (.string t) ∧ Below w.heap.size w w' := by
  have Hc := Lib.hid hc
  have Hx := Lib.hid hx
  have hnl := hc.ca
  unfold maxLen at hnl
  obtain ⟨day, line, art, amt, FA, fc, facts, RA, rc, rests⟩ := x
  obtain ⟨f0, LA, lc, ds, AA, ac, nums, v3, v4, v5, v6, cur, fst⟩ := c
  dsimp only [caseV] at hd0 hd1 ha0 ha1 hnl ht ⊢
  obtain ⟨k, rfl⟩ := Int.eq_ofNat_of_zero_le ha0
  have hkn : k < nums.length := by omega
  obtain ⟨b, off, hAA, hb, hcell⟩ := hc.la (by dsimp only; omega)
  dsimp only at hAA hb hcell
  subst hAA
  obtain ⟨num, hnum⟩ : ∃ n, nums.getD k 0 = n := ⟨_, rfl⟩
  have hnI : I64 num := by rw [← hnum]; exact hc.nu _ (by dsimp only; simp [List.getD, hkn])
  have hnc : w.cell? ⟨b, off + k * 14, none⟩ = some (.int .i64 num) := by rw [← hnum]; exact hcell k hkn
  have hts : t.size ≤ 45000 := by
    rw [← ht.out]
    exact reasonB_size nums _ ⟨by dsimp only; omega, by dsimp only; omega⟩ (by dsimp only; rw [Int.toNat_natCast, hnum]; exact hnI) hx.bf hx.br hx.lf hx.lr
  obtain ⟨t1, ht1⟩ : ∃ t, itoaB (k : Int) = t := ⟨_, rfl⟩
  obtain ⟨t2, ht2⟩ : ∃ t, itoaB num = t := ⟨_, rfl⟩
  obtain ⟨t3, ht3⟩ : ∃ t, dayB day = t := ⟨_, rfl⟩
  obtain ⟨t4, ht4⟩ : ∃ t, listedB facts = t := ⟨_, rfl⟩
  obtain ⟨t5, ht5⟩ : ∃ t, listedB rests = t := ⟨_, rfl⟩
  have Ht : Hid (catB [tVersion, t1, tArticle, t2, tOn, t3, tFacts, t4, tVersions, t5] = t) := Lib.hid (by
    rw [← ht.out, reasonB]
    dsimp only
    rw [Int.toNat_natCast, hnum, ht1, ht2, ht3, ht4, ht5])
  have H1 := Lib.hid ht1
  have H2 := Lib.hid ht2
  have H3 := Lib.hid ht3
  have H4 := Lib.hid ht4
  have H5 := Lib.hid ht5
  obtain ⟨fn, hfn⟩ : ∃ n, facts.length = n := ⟨_, rfl⟩
  obtain ⟨rn, hrn⟩ : ∃ n, rests.length = n := ⟨_, rfl⟩
  obtain ⟨nl, hnl'⟩ : ∃ n, nums.length = n := ⟨_, rfl⟩
  obtain ⟨dl, hdl⟩ : ∃ n, ds.length = n := ⟨_, rfl⟩
  rw [hfn, hrn, hnl', hdl]
  rw [hnl'] at ha1 hnl hkn
  have Hfn := Lib.hid hfn
  have Hrn := Lib.hid hrn
  have h0k : (0 : Int) ≤ (k : Int) := Int.natCast_nonneg k
  have hkI : I64 (k : Int) := ⟨by omega, by omega⟩
  have hfl : fn ≤ 1000 := by rw [← hfn]; exact hx.lf
  have hrl : rn ≤ 1000 := by rw [← hrn]; exact hx.lr
  have HSF := Lib.hid (show Sl w w.heap.size 1 FA fn (intV facts) by rw [← hfn]; exact hx.sf)
  have HSR := Lib.hid (show Sl w w.heap.size 1 RA rn (intV rests) by rw [← hrn]; exact hx.sr)
  have ht47 : t.size ≤ 140737488355328 := by omega
  clear ht ht1 ht2 ht3 ht4 ht5 hnum hc hx hcell hfn hrn hnl' hdl
  go_enter Tryd.func40, Tryd.ntmps40
  go_upto_region 1 with fail
  obtain ⟨W, hW⟩ : ∃ W, W = (w.alloc (.cells #[f0, .slice LA dl lc, .slice (some ⟨b, off, none⟩) nl ac, v3, v4, v5, v6, .string cur, .int .i64 fst] 33)).alloc (.cells #[.int .i64 day, .int .i64 line, .int .i64 (k : Int), .int .i64 amt, .slice FA fn fc, .slice RA rn rc] 62) := ⟨_, rfl⟩
  rw [← hW]
  have g1 : W.heap[w.heap.size + 1]? = some (.cells #[.int .i64 day, .int .i64 line, .int .i64 (k : Int), .int .i64 amt, .slice FA fn fc, .slice RA rn rc] 62 (0, 0)) := by rw [hW]; exact heap_alloc2_new w _ _
  have g0 : W.heap[w.heap.size]? = some (.cells #[f0, .slice LA dl lc, .slice (some ⟨b, off, none⟩) nl ac, v3, v4, v5, v6, .string cur, .int .i64 fst] 33 (0, 0)) := by rw [hW]; exact heap_alloc2_old w _ _
  have hBW : Below w.heap.size w W := by rw [hW]; exact bal (bal (Below.refl _ _) _) _
  have hsz : w.heap.size + 1 < W.heap.size := by rw [hW]; simp
  clear hW
  have c2 : W.cell? ⟨w.heap.size, 2, none⟩ = some (.slice (some ⟨b, off, none⟩) nl ac) := by rw [Lib.cell_of_heap g0]; rfl
  have x0 : W.cell? ⟨w.heap.size + 1, 0, none⟩ = some (.int .i64 day) := by rw [Lib.cell_of_heap g1]; rfl
  have x2 : W.cell? ⟨w.heap.size + 1, 2, none⟩ = some (.int .i64 (k : Int)) := by rw [Lib.cell_of_heap g1]; rfl
  have x4 : W.cell? ⟨w.heap.size + 1, 4, none⟩ = some (.slice FA fn fc) := by rw [Lib.cell_of_heap g1]; rfl
  have x5 : W.cell? ⟨w.heap.size + 1, 5, none⟩ = some (.slice RA rn rc) := by rw [Lib.cell_of_heap g1]; rfl
  have hnc' : W.cell? ⟨b, off + k * 14, none⟩ = some (.int .i64 num) := (hBW.cell (p := ⟨b, off + k * 14, none⟩) hb).trans hnc
  have hTW := hT.go hBW
  have GX := Lib.hid (And.intro x0 (And.intro x2 (And.intro x4 x5)))
  clear g0 g1 hnc hT
  go_upto_region 2 with fail
  refine wp_region_noPanic ?_
  have hszd : w.heap.size + 1 < W.drew.heap.size := hsz
  have hTd : CaT.Tabs W.drew := hTW
  have hBd : Below w.heap.size w W.drew := hBW.drew
  clear hTW hBW c2 hnc'
  have hj : ∀ W', Sl (World.alloc W' (.cells #[.string ⟨#[118, 101, 114, 115, 105, 111, 110, 32]⟩, .string t1, .string ⟨#[32, 111, 102, 32, 97, 114, 116, 105, 99, 108, 101, 32]⟩, .string t2, .string ⟨#[32, 111, 110, 32]⟩, .string t3, .string ⟨#[59, 32, 102, 97, 99, 116, 115, 32]⟩, .string t4, .string ⟨#[59, 32, 118, 101, 114, 115, 105, 111, 110, 115, 32]⟩, .string t5] 9)) (World.alloc W' (.cells #[.string ⟨#[118, 101, 114, 115, 105, 111, 110, 32]⟩, .string t1, .string ⟨#[32, 111, 102, 32, 97, 114, 116, 105, 99, 108, 101, 32]⟩, .string t2, .string ⟨#[32, 111, 110, 32]⟩, .string t3, .string ⟨#[59, 32, 102, 97, 99, 116, 115, 32]⟩, .string t4, .string ⟨#[59, 32, 118, 101, 114, 115, 105, 111, 110, 115, 32]⟩, .string t5] 9)).heap.size 1 (some ⟨W'.heap.size, 0, none⟩) 10 (strV [⟨#[118, 101, 114, 115, 105, 111, 110, 32]⟩, t1, ⟨#[32, 111, 102, 32, 97, 114, 116, 105, 99, 108, 101, 32]⟩, t2, ⟨#[32, 111, 110, 32]⟩, t3, ⟨#[59, 32, 102, 97, 99, 116, 115, 32]⟩, t4, ⟨#[59, 32, 118, 101, 114, 115, 105, 111, 110, 115, 32]⟩, t5]) := fun W' => sl_cells (World.alloc_heap_new _ _) rfl rfl
  have Ht2 : Hid (catB [⟨#[118, 101, 114, 115, 105, 111, 110, 32]⟩, t1, ⟨#[32, 111, 102, 32, 97, 114, 116, 105, 99, 108, 101, 32]⟩, t2, ⟨#[32, 111, 110, 32]⟩, t3, ⟨#[59, 32, 102, 97, 99, 116, 115, 32]⟩, t4, ⟨#[59, 32, 118, 101, 114, 115, 105, 111, 110, 115, 32]⟩, t5] = t) := Ht
  refine wp_region_held_drew (S := fun w' => w'.cell? ⟨w.heap.size + 1, 0, none⟩ = some (.int .i64 day) ∧ w'.cell? ⟨w.heap.size + 1, 2, none⟩ = some (.int .i64 (k : Int)) ∧ w'.cell? ⟨w.heap.size + 1, 4, none⟩ = some (.slice FA fn fc) ∧ w'.cell? ⟨w.heap.size + 1, 5, none⟩ = some (.slice RA rn rc)) (by kernel_rfl) ⟨x0, x2, x4, x5⟩ (fun hHeld => ?_)
  clear x0 x2 x4 x5
  refine wpAnyH_take (i := 0) (v := ?_) rfl (by kernel_rfl) (by kernel_rfl) (by kernel_rfl) (fun _ _ _ h => h) (Or.inl ⟨by kernel_rfl, ?_⟩) (by assumption) ?_
  rotate_left
  · intro w hSw
    (try dsimp only at hSw)
    go_simp
    first | done | with_reducible rfl
  simp only [List.getElem_toArray, List.getElem_cons_zero, List.getElem_cons_succ, Act.put, List.setIfInBounds_toArray, List.set_cons_zero, List.set_cons_succ]
  refine wpAnyH_take (i := 1) (v := ?_) rfl (by kernel_rfl) (by kernel_rfl) (by kernel_rfl) (fun _ _ _ h => h) (Or.inl ⟨by kernel_rfl, ?_⟩) (by assumption) ?_
  rotate_left
  · intro w hSw
    (try dsimp only at hSw)
    go_simp
    first | done | with_reducible rfl
  simp only [List.getElem_toArray, List.getElem_cons_zero, List.getElem_cons_succ, Act.put, List.setIfInBounds_toArray, List.set_cons_zero, List.set_cons_succ]
  refine wpAnyH_take (i := 3) (v := ?_) rfl (by kernel_rfl) (by kernel_rfl) (by kernel_rfl) (fun _ _ _ h => h) (Or.inl ⟨by kernel_rfl, ?_⟩) (by assumption) ?_
  rotate_left
  · intro w hSw
    (try dsimp only at hSw)
    go_simp
    first | done | with_reducible rfl
  simp only [List.getElem_toArray, List.getElem_cons_zero, List.getElem_cons_succ, Act.put, List.setIfInBounds_toArray, List.set_cons_zero, List.set_cons_succ]
  refine wpAnyH_take (i := 5) (v := ?_) rfl (by kernel_rfl) (by kernel_rfl) (by kernel_rfl) (fun _ _ _ h => h) (Or.inl ⟨by kernel_rfl, ?_⟩) (by assumption) ?_
  rotate_left
  · intro w hSw
    (try dsimp only at hSw)
    go_simp
    first | done | with_reducible rfl
  simp only [List.getElem_toArray, List.getElem_cons_zero, List.getElem_cons_succ, Act.put, List.setIfInBounds_toArray, List.set_cons_zero, List.set_cons_succ]
  refine wpAnyH_take (i := 6) (v := ?_) rfl (by kernel_rfl) (by kernel_rfl) (by kernel_rfl) (fun _ _ _ h => h) (Or.inl ⟨by kernel_rfl, ?_⟩) (by assumption) ?_
  rotate_left
  · intro w hSw
    (try dsimp only at hSw)
    go_simp
    first | done | with_reducible rfl
  simp only [List.getElem_toArray, List.getElem_cons_zero, List.getElem_cons_succ, Act.put, List.setIfInBounds_toArray, List.set_cons_zero, List.set_cons_succ]
  refine wpAnyH_take (i := 8) (v := ?_) rfl (by kernel_rfl) (by kernel_rfl) (by kernel_rfl) (fun _ _ _ h => h) (Or.inl ⟨by kernel_rfl, ?_⟩) (by assumption) ?_
  rotate_left
  · intro w hSw
    (try dsimp only at hSw)
    go_simp
    first | done | with_reducible rfl
  simp only [List.getElem_toArray, List.getElem_cons_zero, List.getElem_cons_succ, Act.put, List.setIfInBounds_toArray, List.set_cons_zero, List.set_cons_succ]
  refine wpAnyH_take (i := 9) (v := ?_) rfl (by kernel_rfl) (by kernel_rfl) (by kernel_rfl) (fun _ _ _ h => h) (Or.inl ⟨by kernel_rfl, ?_⟩) (by assumption) ?_
  rotate_left
  · intro w hSw
    (try dsimp only at hSw)
    go_simp
    first | done | with_reducible rfl
  simp only [List.getElem_toArray, List.getElem_cons_zero, List.getElem_cons_succ, Act.put, List.setIfInBounds_toArray, List.set_cons_zero, List.set_cons_succ]
  refine wpAnyH_take (i := 11) (v := ?_) rfl (by kernel_rfl) (by kernel_rfl) (by kernel_rfl) (fun _ _ _ h => h) (Or.inl ⟨by kernel_rfl, ?_⟩) (by assumption) ?_
  rotate_left
  · intro w hSw
    (try dsimp only at hSw)
    go_simp
    first | done | with_reducible rfl
  simp only [List.getElem_toArray, List.getElem_cons_zero, List.getElem_cons_succ, Act.put, List.setIfInBounds_toArray, List.set_cons_zero, List.set_cons_succ]
  refine wpAnyH_take (i := 12) (v := ?_) rfl (by kernel_rfl) (by kernel_rfl) (by kernel_rfl) (fun _ _ _ h => h) (Or.inl ⟨by kernel_rfl, ?_⟩) (by assumption) ?_
  rotate_left
  · intro w hSw
    (try dsimp only at hSw)
    go_simp
    first | done | with_reducible rfl
  simp only [List.getElem_toArray, List.getElem_cons_zero, List.getElem_cons_succ, Act.put, List.setIfInBounds_toArray, List.set_cons_zero, List.set_cons_succ]
  refine wpAnyH_ready (rs := [2]) (by kernel_rfl) (by simp) ?_
  refine AllReadyH.cons rfl (fun K hK => ?_) AllReadyH.nil
  simp only [List.getElem_toArray, List.getElem_cons_zero, List.getElem_cons_succ]
  go_simp
  (with_reducible refine (itoa_at (k : Int) t1 H1 hkI W.drew hTd).mono ?_)
  rintro e w1 ⟨rfl, hB1⟩
  dsimp only
  have hD1 : Below W.drew.heap.size W.drew w1 := hB1
  refine hK.out _ _ ⟨(hD1.cell (p := ⟨w.heap.size + 1, 0, none⟩) hszd).trans (GX.out.1 : W.drew.cell? ⟨w.heap.size + 1, 0, none⟩ = _), (hD1.cell (p := ⟨w.heap.size + 1, 2, none⟩) hszd).trans (GX.out.2.1 : W.drew.cell? ⟨w.heap.size + 1, 2, none⟩ = _), (hD1.cell (p := ⟨w.heap.size + 1, 4, none⟩) hszd).trans (GX.out.2.2.1 : W.drew.cell? ⟨w.heap.size + 1, 4, none⟩ = _), (hD1.cell (p := ⟨w.heap.size + 1, 5, none⟩) hszd).trans (GX.out.2.2.2 : W.drew.cell? ⟨w.heap.size + 1, 5, none⟩ = _)⟩ (fun hHeld => ?_)
  clear hK K
  try simp only [List.getElem_toArray, List.getElem_cons_zero, List.getElem_cons_succ, Act.put, List.setIfInBounds_toArray, List.set_cons_zero, List.set_cons_succ]
  refine wpAnyH_ready (rs := [4]) (by kernel_rfl) (by simp) ?_
  refine AllReadyH.cons rfl (fun K hK => ?_) AllReadyH.nil
  simp only [List.getElem_toArray, List.getElem_cons_zero, List.getElem_cons_succ]
  go_simp
  (with_reducible refine (itoa_at num t2 H2 hnI w1 (hTd.go hD1)).mono ?_)
  rintro e w2 ⟨rfl, hB2⟩
  dsimp only
  have hD2 := bgo hD1 hB2
  refine hK.out _ _ ⟨(hD2.cell (p := ⟨w.heap.size + 1, 0, none⟩) hszd).trans (GX.out.1 : W.drew.cell? ⟨w.heap.size + 1, 0, none⟩ = _), (hD2.cell (p := ⟨w.heap.size + 1, 2, none⟩) hszd).trans (GX.out.2.1 : W.drew.cell? ⟨w.heap.size + 1, 2, none⟩ = _), (hD2.cell (p := ⟨w.heap.size + 1, 4, none⟩) hszd).trans (GX.out.2.2.1 : W.drew.cell? ⟨w.heap.size + 1, 4, none⟩ = _), (hD2.cell (p := ⟨w.heap.size + 1, 5, none⟩) hszd).trans (GX.out.2.2.2 : W.drew.cell? ⟨w.heap.size + 1, 5, none⟩ = _)⟩ (fun hHeld => ?_)
  clear hK K
  try simp only [List.getElem_toArray, List.getElem_cons_zero, List.getElem_cons_succ, Act.put, List.setIfInBounds_toArray, List.set_cons_zero, List.set_cons_succ]
  refine wpAnyH_ready (rs := [7]) (by kernel_rfl) (by simp) ?_
  refine AllReadyH.cons rfl (fun K hK => ?_) AllReadyH.nil
  simp only [List.getElem_toArray, List.getElem_cons_zero, List.getElem_cons_succ]
  go_simp
  (with_reducible refine (caltext_any day t3 H3 hd0 hd1 w2 (hTd.go hD2)).mono ?_)
  rintro e w3 ⟨rfl, hB3⟩
  dsimp only
  have hD3 := bgo hD2 hB3
  refine hK.out _ _ ⟨(hD3.cell (p := ⟨w.heap.size + 1, 0, none⟩) hszd).trans (GX.out.1 : W.drew.cell? ⟨w.heap.size + 1, 0, none⟩ = _), (hD3.cell (p := ⟨w.heap.size + 1, 2, none⟩) hszd).trans (GX.out.2.1 : W.drew.cell? ⟨w.heap.size + 1, 2, none⟩ = _), (hD3.cell (p := ⟨w.heap.size + 1, 4, none⟩) hszd).trans (GX.out.2.2.1 : W.drew.cell? ⟨w.heap.size + 1, 4, none⟩ = _), (hD3.cell (p := ⟨w.heap.size + 1, 5, none⟩) hszd).trans (GX.out.2.2.2 : W.drew.cell? ⟨w.heap.size + 1, 5, none⟩ = _)⟩ (fun hHeld => ?_)
  clear hK K
  try simp only [List.getElem_toArray, List.getElem_cons_zero, List.getElem_cons_succ, Act.put, List.setIfInBounds_toArray, List.set_cons_zero, List.set_cons_succ]
  refine wpAnyH_ready (rs := [10]) (by kernel_rfl) (by simp) ?_
  refine AllReadyH.cons rfl (fun K hK => ?_) AllReadyH.nil
  simp only [List.getElem_toArray, List.getElem_cons_zero, List.getElem_cons_succ]
  go_simp
  (with_reducible refine (listed_at FA fc fn facts t4 Hfn.out H4 w3 (hTd.go hD3) (HSF.out.go (bgo hBd hD3)) hfl Hx.out.bf).mono ?_)
  rintro e w4 ⟨rfl, hB4⟩
  dsimp only
  have hD4 := bgo hD3 hB4
  refine hK.out _ _ ⟨(hD4.cell (p := ⟨w.heap.size + 1, 0, none⟩) hszd).trans (GX.out.1 : W.drew.cell? ⟨w.heap.size + 1, 0, none⟩ = _), (hD4.cell (p := ⟨w.heap.size + 1, 2, none⟩) hszd).trans (GX.out.2.1 : W.drew.cell? ⟨w.heap.size + 1, 2, none⟩ = _), (hD4.cell (p := ⟨w.heap.size + 1, 4, none⟩) hszd).trans (GX.out.2.2.1 : W.drew.cell? ⟨w.heap.size + 1, 4, none⟩ = _), (hD4.cell (p := ⟨w.heap.size + 1, 5, none⟩) hszd).trans (GX.out.2.2.2 : W.drew.cell? ⟨w.heap.size + 1, 5, none⟩ = _)⟩ (fun hHeld => ?_)
  clear hK K
  try simp only [List.getElem_toArray, List.getElem_cons_zero, List.getElem_cons_succ, Act.put, List.setIfInBounds_toArray, List.set_cons_zero, List.set_cons_succ]
  refine wpAnyH_ready (rs := [13]) (by kernel_rfl) (by simp) ?_
  refine AllReadyH.cons rfl (fun K hK => ?_) AllReadyH.nil
  simp only [List.getElem_toArray, List.getElem_cons_zero, List.getElem_cons_succ]
  go_simp
  (with_reducible refine (listed_at RA rc rn rests t5 Hrn.out H5 w4 (hTd.go hD4) (HSR.out.go (bgo hBd hD4)) hrl Hx.out.br).mono ?_)
  rintro e w5 ⟨rfl, hB5⟩
  dsimp only
  have hD5 := bgo hD4 hB5
  refine hK.out _ _ ⟨(hD5.cell (p := ⟨w.heap.size + 1, 0, none⟩) hszd).trans (GX.out.1 : W.drew.cell? ⟨w.heap.size + 1, 0, none⟩ = _), (hD5.cell (p := ⟨w.heap.size + 1, 2, none⟩) hszd).trans (GX.out.2.1 : W.drew.cell? ⟨w.heap.size + 1, 2, none⟩ = _), (hD5.cell (p := ⟨w.heap.size + 1, 4, none⟩) hszd).trans (GX.out.2.2.1 : W.drew.cell? ⟨w.heap.size + 1, 4, none⟩ = _), (hD5.cell (p := ⟨w.heap.size + 1, 5, none⟩) hszd).trans (GX.out.2.2.2 : W.drew.cell? ⟨w.heap.size + 1, 5, none⟩ = _)⟩ (fun hHeld => ?_)
  clear hK K
  try simp only [List.getElem_toArray, List.getElem_cons_zero, List.getElem_cons_succ, Act.put, List.setIfInBounds_toArray, List.set_cons_zero, List.set_cons_succ]
  refine wpAnyH_ready (rs := [14]) (by kernel_rfl) (by simp) ?_
  refine AllReadyH.cons rfl (fun K hK => ?_) AllReadyH.nil
  simp only [List.getElem_toArray, List.getElem_cons_zero, List.getElem_cons_succ]
  go_simp
  refine hK.out _ _ ⟨((bal hD5 _).cell (p := ⟨w.heap.size + 1, 0, none⟩) hszd).trans (GX.out.1 : W.drew.cell? ⟨w.heap.size + 1, 0, none⟩ = _), ((bal hD5 _).cell (p := ⟨w.heap.size + 1, 2, none⟩) hszd).trans (GX.out.2.1 : W.drew.cell? ⟨w.heap.size + 1, 2, none⟩ = _), ((bal hD5 _).cell (p := ⟨w.heap.size + 1, 4, none⟩) hszd).trans (GX.out.2.2.1 : W.drew.cell? ⟨w.heap.size + 1, 4, none⟩ = _), ((bal hD5 _).cell (p := ⟨w.heap.size + 1, 5, none⟩) hszd).trans (GX.out.2.2.2 : W.drew.cell? ⟨w.heap.size + 1, 5, none⟩ = _)⟩ (fun hHeld => ?_)
  clear hK K
  try simp only [List.getElem_toArray, List.getElem_cons_zero, List.getElem_cons_succ, Act.put, List.setIfInBounds_toArray, List.set_cons_zero, List.set_cons_succ]
  refine wpAnyH_ready (rs := [15]) (by kernel_rfl) (by simp) ?_
  refine AllReadyH.cons rfl (fun K hK => ?_) AllReadyH.nil
  simp only [List.getElem_toArray, List.getElem_cons_zero, List.getElem_cons_succ]
  go_simp
  (with_reducible refine (join_at _ 10 10 [⟨#[118, 101, 114, 115, 105, 111, 110, 32]⟩, t1, ⟨#[32, 111, 102, 32, 97, 114, 116, 105, 99, 108, 101, 32]⟩, t2, ⟨#[32, 111, 110, 32]⟩, t3, ⟨#[59, 32, 102, 97, 99, 116, 115, 32]⟩, t4, ⟨#[59, 32, 118, 101, 114, 115, 105, 111, 110, 115, 32]⟩, t5] t rfl Ht2 (by decide) (by decide) (by decide) ht47 _ (hj w5)).mono ?_)
  rintro e w6 ⟨rfl, hB6⟩
  dsimp only
  have hD6 := bgo (bal hD5 _) hB6
  refine hK.out _ _ ⟨(hD6.cell (p := ⟨w.heap.size + 1, 0, none⟩) hszd).trans (GX.out.1 : W.drew.cell? ⟨w.heap.size + 1, 0, none⟩ = _), (hD6.cell (p := ⟨w.heap.size + 1, 2, none⟩) hszd).trans (GX.out.2.1 : W.drew.cell? ⟨w.heap.size + 1, 2, none⟩ = _), (hD6.cell (p := ⟨w.heap.size + 1, 4, none⟩) hszd).trans (GX.out.2.2.1 : W.drew.cell? ⟨w.heap.size + 1, 4, none⟩ = _), (hD6.cell (p := ⟨w.heap.size + 1, 5, none⟩) hszd).trans (GX.out.2.2.2 : W.drew.cell? ⟨w.heap.size + 1, 5, none⟩ = _)⟩ (fun hHeld => ?_)
  clear hK K
  try simp only [List.getElem_toArray, List.getElem_cons_zero, List.getElem_cons_succ, Act.put, List.setIfInBounds_toArray, List.set_cons_zero, List.set_cons_succ]
  refine wpAnyH_take (i := 16) (v := ?_) rfl (by kernel_rfl) (by kernel_rfl) (by kernel_rfl) (fun _ _ _ h => h) (Or.inl ⟨by kernel_rfl, ?_⟩) (by assumption) ?_
  rotate_left
  · intro w hSw
    (try dsimp only at hSw)
    go_simp
    first | done | with_reducible rfl
  simp only [List.getElem_toArray, List.getElem_cons_zero, List.getElem_cons_succ, Act.put, List.setIfInBounds_toArray, List.set_cons_zero, List.set_cons_succ]
  refine wpAnyH_done (by kernel_rfl) ?_ _
  dsimp only [NoPanic]
  clear hHeld
  go_wp2_with fail
  go_ret
  exact ⟨rfl, bgo hBd hD6⟩
end Go.Proofs.YtfjkmhbipkoefaaDoor
