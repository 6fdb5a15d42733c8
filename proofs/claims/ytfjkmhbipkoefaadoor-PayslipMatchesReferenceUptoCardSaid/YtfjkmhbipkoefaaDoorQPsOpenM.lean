/- Cases, results and payslips as arguments, with the bulk of what they hold. -/
import Derived.Test.YtfjkmhbipkoefaaDoorQ26
import Derived.Test.YtfjkmhbipkoefaaDoorRows
import Derived.Test.YtfjkmhbipkoefaaDoorQPsLawM
import Derived.Deep.Slices
import Derived.Deep.Fields
import Derived.ChangeSame
import Derived.ChangeArms
import Derived.Lib.SmallJoins
namespace Go.Proofs.YtfjkmhbipkoefaaDoor
open Go.RowKit Go.ChangeShapes Go.WideShapes Go.Deep Go.Shelf
set_option linter.unusedVariables false
set_option linter.unusedSimpArgs false
set_option maxRecDepth 100000
instance : Inhabited (Int × Int) := ⟨(0, 0)⟩
theorem bulk_part {H : Type} {d : DataW H} {l : List (DataW H)} (h : d ∈ l) : Rows.uptoBulk d ≤ Rows.uptoBulkAll l := by
  induction l with
  | nil => cases h
  | cons x r ih =>
    simp only [Rows.uptoBulkAll]
    cases List.mem_cons.1 h with
    | inl e => subst e; omega
    | inr e => have := ih e; omega
theorem bulk_app {H : Type} (l r : List (DataW H)) : Rows.uptoBulkAll (l ++ r) = Rows.uptoBulkAll l + Rows.uptoBulkAll r := by
  induction l with
  | nil => simp [Rows.uptoBulkAll]
  | cons x l ih => simp only [List.cons_append, Rows.uptoBulkAll, ih]; omega
theorem bulk_agg {H : Type} {xs : List (DataW H × List MemPlace)} {j : Nat} {z : DataW H × List MemPlace} (hz : xs[j]? = some z) : Rows.uptoBulk z.1 ≤ Rows.uptoBulk (.agg (xs.map (·.1))) := by
  have h1 : z.1 ∈ xs.map (·.1) := List.mem_map.2 ⟨z, List.mem_of_getElem? hz, rfl⟩
  have h2 := bulk_part h1
  simp only [Rows.uptoBulk]
  omega
theorem bulk_elem {H : Type} {elems spare : List (DataW H)} {d : DataW H} (h : d ∈ elems) : Rows.uptoBulk d ≤ Rows.uptoBulk (.slice elems spare) := by
  have h2 := bulk_part h
  simp only [Rows.uptoBulk]
  omega
theorem bulk_str {H : Type} (s : ByteArray) : s.size ≤ Rows.uptoBulk (DataW.lit (H := H) (.string s.data.toList)) := by
  simp only [Rows.uptoBulk]
  have : s.data.toList.length = s.size := Array.length_toList
  omega
/-- A row of structs that lies from an address on. -/
theorem sl_rowsQ {α : Type} (f : α → List Value) (sz : Nat) (hf : ∀ x, (f x).length = sz) (hsz : 0 < sz) {W : World} {a : Addr} {len : Nat} (X : Nat → α) (h : ∀ i, i < len → ∀ j u, (f (X i))[j]? = some u → W.cell? (a.add (i * sz + j)) = some u) :
    Sl W W.heap.size sz (some a) len (((List.range len).map X).flatMap f) := by
  have ht : ((List.range len).map X).length = len := by simp
  have hfl : ∀ l : List α, (l.flatMap f).length = l.length * sz := by
    intro l
    induction l with
    | nil => simp
    | cons x l ih => rw [List.flatMap_cons, List.length_append, ih, List.length_cons, hf, Nat.add_mul]; omega
  refine sl_of_row (by rw [hfl, ht]) (fun _ => hsz) ?_
  · intro j u hu
    obtain ⟨hj, e⟩ := List.getElem?_eq_some_iff.1 hu
    rw [hfl, ht] at hj
    have hq : j / sz < len := Nat.div_lt_of_lt_mul (by rw [Nat.mul_comm]; exact hj)
    have hr : j % sz < sz := Nat.mod_lt _ hsz
    have hjj : j = j / sz * sz + j % sz := by rw [Nat.mul_comm]; exact (Nat.div_add_mod j sz).symm
    have hget : (((List.range len).map X).flatMap f)[j / sz * sz + j % sz]? = (f (((List.range len).map X)[j / sz]'(by rw [ht]; exact hq)))[j % sz]? := by
      have hg : ∀ (l : List α) (i : Nat) (hi : i < l.length) (q : Nat), q < sz → (l.flatMap f)[i * sz + q]? = (f l[i])[q]? := by
        intro l
        induction l with
        | nil => intro i hi; exact absurd hi (Nat.not_lt_zero i)
        | cons a l ih =>
          intro i hi q hq
          rw [List.flatMap_cons]
          cases i with
          | zero => rw [Nat.zero_mul, Nat.zero_add, List.getElem?_append_left (by rw [hf]; exact hq)]; rfl
          | succ i =>
            rw [List.getElem?_append_right (by rw [hf, Nat.add_mul, Nat.one_mul]; omega), hf, show (i + 1) * sz + q - sz = i * sz + q by rw [Nat.add_mul, Nat.one_mul]; omega, ih i (by simpa using hi) q hq]
            rfl
      exact hg _ _ _ _ hr
    rw [← hjj, hu] at hget
    have hx : ((List.range len).map X)[j / sz]'(by rw [ht]; exact hq) = X (j / sz) := by simp
    rw [hx] at hget
    rw [hjj]
    exact h _ hq _ _ hget.symm
/-- A slice of whatever type. -/
theorem tr_slc {H : Type} {enc : TypeId × Value → H} {W : World} {n : Nat} {v : Value} {y : DataW H × List MemPlace} {t e : TypeId} (ht : Tryd.prog.underlying t = some (.slice e)) (h : DataW.trod enc Tryd.prog W 0 (fun _ => true) true n t [v] = some y) : ∃ a len cap, v = .slice a len cap := by
  rcases open_slice ht h with ⟨hcs, _⟩ | ⟨a, len, cap, m, n', D, Pl, hcs, _⟩
  · exact ⟨none, 0, 0, by simpa using hcs⟩
  · exact ⟨some a, len, cap, by simpa using hcs⟩
theorem tr_decl {H : Type} {enc : TypeId × Value → H} {W : World} {n : Nat} {cs : List Value} {y : DataW H × List MemPlace} (h : DataW.trod enc Tryd.prog W 0 (fun _ => true) true n 66 cs = some y) : ∃ d : DeclD, cs = declV d ∧ d.name.size ≤ Rows.uptoBulk y.1 := by
  obtain ⟨xs, n', _, hy, hl, hlen, hf⟩ := DataW.trod_struct Tryd.underlying66 h
  rw [(by kernel_rfl : Tryd.prog.cellsOf 66 = 3)] at hl
  match cs, hl with
  | [c0, c1, c2], _ =>
    have h0 : DataW.trod enc Tryd.prog W 0 (fun _ => true) true n' 9 (List.take (Tryd.prog.cellsOf 9) (List.drop 0 [c0, c1, c2])) = xs[0]? := hf 0 _ rfl
    have h1 : DataW.trod enc Tryd.prog W 0 (fun _ => true) true n' 9 (List.take (Tryd.prog.cellsOf 9) (List.drop 1 [c0, c1, c2])) = xs[1]? := hf 1 _ rfl
    have h2 : DataW.trod enc Tryd.prog W 0 (fun _ => true) true n' 3 (List.take (Tryd.prog.cellsOf 3) (List.drop 2 [c0, c1, c2])) = xs[2]? := hf 2 _ rfl
    rw [(by kernel_rfl : Tryd.prog.cellsOf 9 = 1)] at h0 h1
    rw [(by kernel_rfl : Tryd.prog.cellsOf 3 = 1)] at h2
    simp only [List.drop_succ_cons, List.drop_zero, List.take_succ_cons, List.take_zero] at h0 h1 h2
    have g : ∀ j : Nat, j < 3 → ∃ z, xs[j]? = some z := fun j hj => ⟨_, List.getElem?_eq_getElem (by rw [hlen]; exact hj)⟩
    obtain ⟨z0, e0⟩ := g 0 (by decide)
    rw [e0] at h0
    obtain ⟨z1, e1⟩ := g 1 (by decide)
    rw [e1] at h1
    obtain ⟨z2, e2⟩ := g 2 (by decide)
    rw [e2] at h2
    have hb : ∀ (j : Nat) z, xs[j]? = some z → Rows.uptoBulk z.1 ≤ Rows.uptoBulk y.1 := fun j z hz => by rw [hy]; exact bulk_agg hz
    obtain ⟨s0, q0, u0, w0⟩ := DataW.trod_string Tryd.underlying9 h0
    simp only [List.cons.injEq, and_true] at q0
    subst q0
    have b0 : s0.size ≤ Rows.uptoBulk y.1 := by have h1 := hb 0 _ e0; rw [u0] at h1; exact Nat.le_trans (bulk_str s0) h1
    obtain ⟨s1, q1, u1, w1⟩ := DataW.trod_string Tryd.underlying9 h1
    simp only [List.cons.injEq, and_true] at q1
    subst q1
    have b1 : s1.size ≤ Rows.uptoBulk y.1 := by have h1 := hb 1 _ e1; rw [u1] at h1; exact Nat.le_trans (bulk_str s1) h1
    obtain ⟨i2, q2, _, w2⟩ := DataW.trod_int Tryd.underlying3 h2
    simp only [List.cons.injEq, and_true] at q2
    subst q2
    exact ⟨⟨s0, s1, i2⟩, rfl, b0⟩
theorem tr_decls {H : Type} {enc : TypeId × Value → H} {W : World} {n : Nat} {v : Value} {y : DataW H × List MemPlace} (h : DataW.trod enc Tryd.prog W 0 (fun _ => true) true n 22 [v] = some y) :
    ∃ (A : Option Addr) (c : Nat) (l : List DeclD), v = .slice A l.length c ∧ Sl W W.heap.size 3 A l.length (l.flatMap declV) ∧ (l.length ≤ c ∧ c ≤ maxLen) ∧ ∀ x ∈ l, x.name.size ≤ Rows.uptoBulk y.1 := by
  rcases open_slice Tryd.underlying22 h with ⟨hcs, _⟩ | ⟨a, len, cap, m, n', D, Pl, hcs, hb, hl, hm, hmm, hx, hi⟩
  · obtain rfl : v = .slice none 0 0 := by simpa using hcs
    exact ⟨none, 0, [], rfl, Sl.nil _ 3, ⟨Nat.le_refl _, Nat.zero_le _⟩, fun x hx => by cases hx⟩
  · obtain rfl : v = .slice (some a) len cap := by simpa using hcs
    simp only [if_true] at hmm
    subst hmm
    have hC : Tryd.prog.cellsOf 66 = 3 := by kernel_rfl
    have each : ∀ i, i < m → ∃ x : DeclD, (∀ j u, (declV x)[j]? = some u → W.cell? (a.add (i * 3 + j)) = some u) ∧ (i < len → x.name.size ≤ Rows.uptoBulk y.1) := by
      intro i hi'
      obtain ⟨cs', hc, ht'⟩ := hi i hi'
      rw [hC] at hc
      obtain ⟨_, hcl, hat⟩ := World.cells?_some hc
      obtain ⟨x, e, hw⟩ := tr_decl ht'
      refine ⟨x, fun j u hu => ?_, fun hil => ?_⟩
      · have hj : j < 3 := by have := (List.getElem?_eq_some_iff.1 hu).1; exact this
        rw [← Go.Deep.add_add, hat j hj, e]
        exact hu
      · have hbk : Rows.uptoBulk (D i) ≤ Rows.uptoBulk y.1 := by rw [hx]; exact bulk_elem (List.mem_map.2 ⟨i, List.mem_range.2 hil, rfl⟩)
        exact Nat.le_trans hw hbk
    obtain ⟨X, hX⟩ := choose_lt each
    have ht : ((List.range len).map X).length = len := by simp
    refine ⟨some a, m, (List.range len).map X, by rw [ht], ?_, ⟨by omega, by omega⟩, ?_⟩
    · rw [ht]
      exact sl_rowsQ declV 3 (fun _ => rfl) (by decide) X (fun i hi' => (hX i (by omega)).1)
    · intro x hx
      obtain ⟨i, hi', rfl⟩ := List.mem_map.1 hx
      have := List.mem_range.1 hi'
      exact (hX i (by omega)).2 this
structure ArtX where
  num : Int
  rest : List Value
  h13 : rest.length = 13
instance : Inhabited ArtX := ⟨⟨0, [.bool true, .bool true, .bool true, .bool true, .bool true, .bool true, .bool true, .bool true, .bool true, .bool true, .bool true, .bool true, .bool true], rfl⟩⟩
def artV (x : ArtX) : List Value := .int .i64 x.num :: x.rest
theorem tr_art {H : Type} {enc : TypeId × Value → H} {W : World} {n : Nat} {cs : List Value} {y : DataW H × List MemPlace} (h : DataW.trod enc Tryd.prog W 0 (fun _ => true) true n 74 cs = some y) : ∃ x : ArtX, cs = artV x ∧ I64 x.num := by
  obtain ⟨xs, n', _, hy, hl, hlen, hf⟩ := DataW.trod_struct Tryd.underlying74 h
  rw [(by kernel_rfl : Tryd.prog.cellsOf 74 = 14)] at hl
  match cs, hl with
  | c0 :: r, hl =>
    have h0 : DataW.trod enc Tryd.prog W 0 (fun _ => true) true n' 3 (List.take (Tryd.prog.cellsOf 3) (List.drop 0 (c0 :: r))) = xs[0]? := hf 0 _ rfl
    rw [(by kernel_rfl : Tryd.prog.cellsOf 3 = 1)] at h0
    simp only [List.drop_zero, List.take_succ_cons, List.take_zero] at h0
    obtain ⟨z0, e0⟩ : ∃ z, xs[0]? = some z := ⟨_, List.getElem?_eq_getElem (by rw [hlen]; decide)⟩
    rw [e0] at h0
    obtain ⟨i0, q0, _, w0⟩ := DataW.trod_int Tryd.underlying3 h0
    simp only [List.cons.injEq, and_true] at q0
    subst q0
    exact ⟨⟨i0, r, by simpa using hl⟩, rfl, bounds_i64 w0⟩
theorem tr_arts {H : Type} {enc : TypeId × Value → H} {W : World} {n : Nat} {v : Value} {y : DataW H × List MemPlace} (h : DataW.trod enc Tryd.prog W 0 (fun _ => true) true n 23 [v] = some y) :
    ∃ (A : Option Addr) (c : Nat) (nums : List Int), v = .slice A nums.length c ∧ ArtAt W A nums ∧ (nums.length ≤ c ∧ c ≤ maxLen) ∧ ∀ x ∈ nums, I64 x := by
  rcases open_slice Tryd.underlying23 h with ⟨hcs, _⟩ | ⟨a, len, cap, m, n', D, Pl, hcs, hb, hl, hm, hmm, hx, hi⟩
  · obtain rfl : v = .slice none 0 0 := by simpa using hcs
    exact ⟨none, 0, [], rfl, (fun h => absurd h (Nat.lt_irrefl 0)), ⟨Nat.le_refl _, Nat.zero_le _⟩, fun x hx => by cases hx⟩
  · obtain rfl : v = .slice (some a) len cap := by simpa using hcs
    simp only [if_true] at hmm
    subst hmm
    have hC : Tryd.prog.cellsOf 74 = 14 := by kernel_rfl
    have each : ∀ i, i < m → ∃ x : ArtX, (∀ j u, (artV x)[j]? = some u → W.cell? (a.add (i * 14 + j)) = some u) ∧ I64 x.num := by
      intro i hi'
      obtain ⟨cs', hc, ht'⟩ := hi i hi'
      rw [hC] at hc
      obtain ⟨_, hcl, hat⟩ := World.cells?_some hc
      obtain ⟨x, e, hw⟩ := tr_art ht'
      refine ⟨x, fun j u hu => ?_, hw⟩
      have hj : j < 14 := by
        have := (List.getElem?_eq_some_iff.1 hu).1
        unfold artV at this
        rw [List.length_cons, x.h13] at this
        exact this
      rw [← Go.Deep.add_add, hat j hj, e]
      exact hu
    obtain ⟨X, hX⟩ := choose_lt each
    have hS := sl_rowsQ artV 14 (fun x => by unfold artV; rw [List.length_cons, x.h13]) (by decide) (len := len) X (fun i hi' => (hX i (by omega)).1)
    refine ⟨some a, m, (List.range len).map fun i => (X i).num, by simp, ?_, ⟨by simp; omega, by omega⟩, ?_⟩
    · intro h0
      have hl0 : 0 < len := by simpa using h0
      obtain ⟨b, off, hA, hbl, hcell⟩ := hS.2 hl0
      refine ⟨b, off, hA, hbl, fun k hk => ?_⟩
      have hkl : k < len := by simpa using hk
      have hA' : a = ⟨b, off, none⟩ := Option.some.inj hA
      have h1 := (hX k (by omega)).1 0 (.int .i64 (X k).num) rfl
      rw [hA', Nat.add_zero] at h1
      have e : ((List.range len).map fun i => (X i).num).getD k 0 = (X k).num := by simp [List.getD, hkl]
      rw [e]
      have ha : (⟨b, off, none⟩ : Addr).add (k * 14) = ⟨b, off + k * 14, none⟩ := by
        unfold Addr.add
        split
        · rename_i h0
          rw [h0]
          rfl
        · rfl
      rw [ha] at h1
      exact h1
    · intro x hx
      obtain ⟨i, hi', rfl⟩ := List.mem_map.1 hx
      have := List.mem_range.1 hi'
      exact (hX i (by omega)).2
theorem tr_codex {H : Type} {enc : TypeId × Value → H} {W : World} {n : Nat} {cs : List Value} {y : DataW H × List MemPlace} (h : DataW.trod enc Tryd.prog W 0 (fun _ => true) true n 25 cs = some y) : ∃ (v0 : Value) (A1 : Option Addr) (k1 : Nat) (l1 : List DeclD) (A2 : Option Addr) (k2 : Nat) (l2 : List Int), cs = [v0, .slice A1 l1.length k1, .slice A2 l2.length k2] ∧ (∃ a n m, v0 = .slice a n m) ∧ Sl W W.heap.size 3 A1 l1.length (l1.flatMap declV) ∧ ArtAt W A2 l2 ∧ l1.length ≤ maxLen ∧ l2.length ≤ maxLen ∧ (∀ x ∈ l2, I64 x) ∧ ∀ d ∈ l1, d.name.size ≤ Rows.uptoBulk y.1 := by
  obtain ⟨xs, n', _, hy, hl, hlen, hf⟩ := DataW.trod_struct Tryd.underlying25 h
  rw [(by kernel_rfl : Tryd.prog.cellsOf 25 = 3)] at hl
  match cs, hl with
  | [c0, c1, c2], _ =>
    have h0 : DataW.trod enc Tryd.prog W 0 (fun _ => true) true n' 22 (List.take (Tryd.prog.cellsOf 22) (List.drop 0 [c0, c1, c2])) = xs[0]? := hf 0 _ rfl
    have h1 : DataW.trod enc Tryd.prog W 0 (fun _ => true) true n' 22 (List.take (Tryd.prog.cellsOf 22) (List.drop 1 [c0, c1, c2])) = xs[1]? := hf 1 _ rfl
    have h2 : DataW.trod enc Tryd.prog W 0 (fun _ => true) true n' 23 (List.take (Tryd.prog.cellsOf 23) (List.drop 2 [c0, c1, c2])) = xs[2]? := hf 2 _ rfl
    rw [(by kernel_rfl : Tryd.prog.cellsOf 22 = 1)] at h0 h1
    rw [(by kernel_rfl : Tryd.prog.cellsOf 23 = 1)] at h2
    simp only [List.drop_succ_cons, List.drop_zero, List.take_succ_cons, List.take_zero] at h0 h1 h2
    have g : ∀ j : Nat, j < 3 → ∃ z, xs[j]? = some z := fun j hj => ⟨_, List.getElem?_eq_getElem (by rw [hlen]; exact hj)⟩
    obtain ⟨z0, e0⟩ := g 0 (by decide)
    rw [e0] at h0
    obtain ⟨z1, e1⟩ := g 1 (by decide)
    rw [e1] at h1
    obtain ⟨z2, e2⟩ := g 2 (by decide)
    rw [e2] at h2
    have hb : ∀ (j : Nat) z, xs[j]? = some z → Rows.uptoBulk z.1 ≤ Rows.uptoBulk y.1 := fun j z hz => by rw [hy]; exact bulk_agg hz
    obtain ⟨a0, m0, k0, q0⟩ := tr_slc Tryd.underlying22 h0
    obtain ⟨A1, k1, l1, q1, s1, n1, b1⟩ := tr_decls h1
    obtain ⟨A2, k2, l2, q2, s2, n2, b2⟩ := tr_arts h2
    subst q1 q2
    exact ⟨c0, A1, k1, l1, A2, k2, l2, rfl, ⟨a0, m0, k0, q0⟩, s1, s2, Nat.le_trans n1.1 n1.2, Nat.le_trans n2.1 n2.2, b2, fun d hd => Nat.le_trans (b1 d hd) (hb 1 _ e1)⟩
theorem tr_store {H : Type} {enc : TypeId × Value → H} {W : World} {n : Nat} {cs : List Value} {y : DataW H × List MemPlace} (h : DataW.trod enc Tryd.prog W 0 (fun _ => true) true n 28 cs = some y) : ∃ a n m, cs = [.slice a n m] := by
  obtain ⟨xs, n', _, hy, hl, hlen, hf⟩ := DataW.trod_struct Tryd.underlying28 h
  rw [(by kernel_rfl : Tryd.prog.cellsOf 28 = 1)] at hl
  match cs, hl with
  | [c0], _ =>
    have h0 : DataW.trod enc Tryd.prog W 0 (fun _ => true) true n' 26 (List.take (Tryd.prog.cellsOf 26) (List.drop 0 [c0])) = xs[0]? := hf 0 _ rfl
    rw [(by kernel_rfl : Tryd.prog.cellsOf 26 = 1)] at h0
    simp only [List.drop_succ_cons, List.drop_zero, List.take_succ_cons, List.take_zero] at h0
    have g : ∀ j : Nat, j < 1 → ∃ z, xs[j]? = some z := fun j hj => ⟨_, List.getElem?_eq_getElem (by rw [hlen]; exact hj)⟩
    obtain ⟨z0, e0⟩ := g 0 (by decide)
    rw [e0] at h0
    have hb : ∀ (j : Nat) z, xs[j]? = some z → Rows.uptoBulk z.1 ≤ Rows.uptoBulk y.1 := fun j z hz => by rw [hy]; exact bulk_agg hz
    obtain ⟨a0, m0, k0, q0⟩ := tr_slc Tryd.underlying26 h0
    exact ⟨a0, m0, k0, by rw [q0]⟩
theorem tr_case {H : Type} {enc : TypeId × Value → H} {W : World} {n : Nat} {cs : List Value} {y : DataW H × List MemPlace} (h : DataW.trod enc Tryd.prog W 0 (fun _ => true) true n 33 cs = some y) : ∃ c : CaseM, cs = caseL c ∧ CaseSl c ∧ Sl W W.heap.size 3 c.LA c.ds.length (c.ds.flatMap declV) ∧ ArtAt W c.AA c.nums ∧ c.ds.length ≤ maxLen ∧ c.nums.length ≤ maxLen ∧ (∀ x ∈ c.nums, I64 x) ∧ ∀ d ∈ c.ds, d.name.size ≤ Rows.uptoBulk y.1 := by
  obtain ⟨xs, n', _, hy, hl, hlen, hf⟩ := DataW.trod_struct Tryd.underlying33 h
  rw [(by kernel_rfl : Tryd.prog.cellsOf 33 = 9)] at hl
  match cs, hl with
  | [c0, c1, c2, c3, c4, c5, c6, c7, c8], _ =>
    have h0 : DataW.trod enc Tryd.prog W 0 (fun _ => true) true n' 25 (List.take (Tryd.prog.cellsOf 25) (List.drop 0 [c0, c1, c2, c3, c4, c5, c6, c7, c8])) = xs[0]? := hf 0 _ rfl
    have h1 : DataW.trod enc Tryd.prog W 0 (fun _ => true) true n' 28 (List.take (Tryd.prog.cellsOf 28) (List.drop 3 [c0, c1, c2, c3, c4, c5, c6, c7, c8])) = xs[1]? := hf 1 _ rfl
    have h2 : DataW.trod enc Tryd.prog W 0 (fun _ => true) true n' 29 (List.take (Tryd.prog.cellsOf 29) (List.drop 4 [c0, c1, c2, c3, c4, c5, c6, c7, c8])) = xs[2]? := hf 2 _ rfl
    have h3 : DataW.trod enc Tryd.prog W 0 (fun _ => true) true n' 30 (List.take (Tryd.prog.cellsOf 30) (List.drop 5 [c0, c1, c2, c3, c4, c5, c6, c7, c8])) = xs[3]? := hf 3 _ rfl
    have h4 : DataW.trod enc Tryd.prog W 0 (fun _ => true) true n' 31 (List.take (Tryd.prog.cellsOf 31) (List.drop 6 [c0, c1, c2, c3, c4, c5, c6, c7, c8])) = xs[4]? := hf 4 _ rfl
    have h5 : DataW.trod enc Tryd.prog W 0 (fun _ => true) true n' 9 (List.take (Tryd.prog.cellsOf 9) (List.drop 7 [c0, c1, c2, c3, c4, c5, c6, c7, c8])) = xs[5]? := hf 5 _ rfl
    have h6 : DataW.trod enc Tryd.prog W 0 (fun _ => true) true n' 3 (List.take (Tryd.prog.cellsOf 3) (List.drop 8 [c0, c1, c2, c3, c4, c5, c6, c7, c8])) = xs[6]? := hf 6 _ rfl
    rw [(by kernel_rfl : Tryd.prog.cellsOf 25 = 3)] at h0
    rw [(by kernel_rfl : Tryd.prog.cellsOf 28 = 1)] at h1
    rw [(by kernel_rfl : Tryd.prog.cellsOf 29 = 1)] at h2
    rw [(by kernel_rfl : Tryd.prog.cellsOf 30 = 1)] at h3
    rw [(by kernel_rfl : Tryd.prog.cellsOf 31 = 1)] at h4
    rw [(by kernel_rfl : Tryd.prog.cellsOf 9 = 1)] at h5
    rw [(by kernel_rfl : Tryd.prog.cellsOf 3 = 1)] at h6
    simp only [List.drop_succ_cons, List.drop_zero, List.take_succ_cons, List.take_zero] at h0 h1 h2 h3 h4 h5 h6
    have g : ∀ j : Nat, j < 7 → ∃ z, xs[j]? = some z := fun j hj => ⟨_, List.getElem?_eq_getElem (by rw [hlen]; exact hj)⟩
    obtain ⟨z0, e0⟩ := g 0 (by decide)
    rw [e0] at h0
    obtain ⟨z1, e1⟩ := g 1 (by decide)
    rw [e1] at h1
    obtain ⟨z2, e2⟩ := g 2 (by decide)
    rw [e2] at h2
    obtain ⟨z3, e3⟩ := g 3 (by decide)
    rw [e3] at h3
    obtain ⟨z4, e4⟩ := g 4 (by decide)
    rw [e4] at h4
    obtain ⟨z5, e5⟩ := g 5 (by decide)
    rw [e5] at h5
    obtain ⟨z6, e6⟩ := g 6 (by decide)
    rw [e6] at h6
    have hb : ∀ (j : Nat) z, xs[j]? = some z → Rows.uptoBulk z.1 ≤ Rows.uptoBulk y.1 := fun j z hz => by rw [hy]; exact bulk_agg hz
    obtain ⟨v0, A1, k1, l1, A2, k2, l2, q0, hv0, s1, s2, n1, n2, b1, b2⟩ := tr_codex h0
    obtain ⟨a3, m3, k3, q3⟩ := tr_store h1
    obtain ⟨a4, m4, k4, q4⟩ := tr_slc Tryd.underlying29 h2
    obtain ⟨a5, m5, k5, q5⟩ := tr_slc Tryd.underlying30 h3
    obtain ⟨a6, m6, k6, q6⟩ := tr_slc Tryd.underlying31 h4
    obtain ⟨s7, q5, u5, w5⟩ := DataW.trod_string Tryd.underlying9 h5
    simp only [List.cons.injEq, and_true] at q5
    subst q5
    have b5 : s7.size ≤ Rows.uptoBulk y.1 := by have h1 := hb 5 _ e5; rw [u5] at h1; exact Nat.le_trans (bulk_str s7) h1
    obtain ⟨i8, q6, _, w6⟩ := DataW.trod_int Tryd.underlying3 h6
    simp only [List.cons.injEq, and_true] at q6
    subst q6
    simp only [List.cons.injEq, and_true] at q0 q3
    obtain ⟨q00, q01, q02⟩ := q0
    subst q00 q01 q02 q3 q4 q5 q6
    exact ⟨⟨c0, A1, k1, l1, A2, k2, l2, .slice a3 m3 k3, .slice a4 m4 k4, .slice a5 m5 k5, .slice a6 m6 k6, s7, i8⟩, rfl, ⟨hv0, ⟨_, _, _, rfl⟩, ⟨_, _, _, rfl⟩, ⟨_, _, _, rfl⟩, ⟨_, _, _, rfl⟩⟩, s1, s2, n1, n2, b1, fun d hd => Nat.le_trans (b2 d hd) (hb 0 _ e0)⟩
theorem open_case {H : Type} {enc : TypeId × Value → H} {W : World} {base : Nat} {v : Value} {d : DataW H} {p : List MemPlace} (hv : Value.okWide Tryd.prog W .any base 33 v) (h : DataW.Trod enc Tryd.prog W 0 (fun _ => true) true 33 v d p) (hk : Rows.uptoBulk d ≤ 1048576) :
    ∃ c : CaseM, v = caseV c ∧ CaseOk W c ∧ CaseSl c := by
  obtain ⟨cs, rfl, hsz⟩ := okWide_struct Tryd.underlying33 hv
  obtain ⟨fuel, hf⟩ := h
  obtain ⟨c, e, hcs, h1, h2, h3, h4, h5, h6⟩ := tr_case hf
  refine ⟨c, ?_, ⟨h1, h2, h3, h4, h5, fun d hd => Nat.le_trans (h6 d hd) (Nat.le_trans hk (by decide))⟩, hcs⟩
  obtain ⟨l⟩ := cs
  have : l = caseL c := by simpa [Value.cells] using e
  rw [this]
  rfl
theorem tr_line {H : Type} {enc : TypeId × Value → H} {W : World} {n : Nat} {cs : List Value} {y : DataW H × List MemPlace} (h : DataW.trod enc Tryd.prog W 0 (fun _ => true) true n 62 cs = some y) : ∃ x : LineM, cs = lineV x ∧ LineRaw W x := by
  obtain ⟨xs, n', _, hy, hl, hlen, hf⟩ := DataW.trod_struct Tryd.underlying62 h
  rw [(by kernel_rfl : Tryd.prog.cellsOf 62 = 6)] at hl
  match cs, hl with
  | [c0, c1, c2, c3, c4, c5], _ =>
    have h0 : DataW.trod enc Tryd.prog W 0 (fun _ => true) true n' 3 (List.take (Tryd.prog.cellsOf 3) (List.drop 0 [c0, c1, c2, c3, c4, c5])) = xs[0]? := hf 0 _ rfl
    have h1 : DataW.trod enc Tryd.prog W 0 (fun _ => true) true n' 3 (List.take (Tryd.prog.cellsOf 3) (List.drop 1 [c0, c1, c2, c3, c4, c5])) = xs[1]? := hf 1 _ rfl
    have h2 : DataW.trod enc Tryd.prog W 0 (fun _ => true) true n' 3 (List.take (Tryd.prog.cellsOf 3) (List.drop 2 [c0, c1, c2, c3, c4, c5])) = xs[2]? := hf 2 _ rfl
    have h3 : DataW.trod enc Tryd.prog W 0 (fun _ => true) true n' 3 (List.take (Tryd.prog.cellsOf 3) (List.drop 3 [c0, c1, c2, c3, c4, c5])) = xs[3]? := hf 3 _ rfl
    have h4 : DataW.trod enc Tryd.prog W 0 (fun _ => true) true n' 39 (List.take (Tryd.prog.cellsOf 39) (List.drop 4 [c0, c1, c2, c3, c4, c5])) = xs[4]? := hf 4 _ rfl
    have h5 : DataW.trod enc Tryd.prog W 0 (fun _ => true) true n' 39 (List.take (Tryd.prog.cellsOf 39) (List.drop 5 [c0, c1, c2, c3, c4, c5])) = xs[5]? := hf 5 _ rfl
    rw [(by kernel_rfl : Tryd.prog.cellsOf 3 = 1)] at h0 h1 h2 h3
    rw [(by kernel_rfl : Tryd.prog.cellsOf 39 = 1)] at h4 h5
    simp only [List.drop_succ_cons, List.drop_zero, List.take_succ_cons, List.take_zero] at h0 h1 h2 h3 h4 h5
    have g : ∀ j : Nat, j < 6 → ∃ z, xs[j]? = some z := fun j hj => ⟨_, List.getElem?_eq_getElem (by rw [hlen]; exact hj)⟩
    obtain ⟨z0, e0⟩ := g 0 (by decide)
    rw [e0] at h0
    obtain ⟨z1, e1⟩ := g 1 (by decide)
    rw [e1] at h1
    obtain ⟨z2, e2⟩ := g 2 (by decide)
    rw [e2] at h2
    obtain ⟨z3, e3⟩ := g 3 (by decide)
    rw [e3] at h3
    obtain ⟨z4, e4⟩ := g 4 (by decide)
    rw [e4] at h4
    obtain ⟨z5, e5⟩ := g 5 (by decide)
    rw [e5] at h5
    have hb : ∀ (j : Nat) z, xs[j]? = some z → Rows.uptoBulk z.1 ≤ Rows.uptoBulk y.1 := fun j z hz => by rw [hy]; exact bulk_agg hz
    obtain ⟨i0, q0, _, w0⟩ := DataW.trod_int Tryd.underlying3 h0
    simp only [List.cons.injEq, and_true] at q0
    subst q0
    obtain ⟨i1, q1, _, w1⟩ := DataW.trod_int Tryd.underlying3 h1
    simp only [List.cons.injEq, and_true] at q1
    subst q1
    obtain ⟨i2, q2, _, w2⟩ := DataW.trod_int Tryd.underlying3 h2
    simp only [List.cons.injEq, and_true] at q2
    subst q2
    obtain ⟨i3, q3, _, w3⟩ := DataW.trod_int Tryd.underlying3 h3
    simp only [List.cons.injEq, and_true] at q3
    subst q3
    obtain ⟨A4, k4, l4, q4, s4, n4, b4⟩ := tr_ints h4
    obtain ⟨A5, k5, l5, q5, s5, n5, b5⟩ := tr_ints h5
    subst q4 q5
    exact ⟨⟨i0, i1, i2, i3, A4, k4, l4, A5, k5, l5⟩, rfl, ⟨s4, s5, Nat.le_trans n4.1 n4.2, Nat.le_trans n5.1 n5.2, b4, b5, bounds_i64 w3⟩⟩
theorem tr_lines {H : Type} {enc : TypeId × Value → H} {W : World} {n : Nat} {v : Value} {y : DataW H × List MemPlace} (h : DataW.trod enc Tryd.prog W 0 (fun _ => true) true n 34 [v] = some y) :
    ∃ (A : Option Addr) (c : Nat) (l : List LineM), v = .slice A l.length c ∧ Sl W W.heap.size 6 A l.length (l.flatMap lineV) ∧ (l.length ≤ c ∧ c ≤ maxLen) ∧ ∀ x ∈ l, LineRaw W x := by
  rcases open_slice Tryd.underlying34 h with ⟨hcs, _⟩ | ⟨a, len, cap, m, n', D, Pl, hcs, hb, hl, hm, hmm, hx, hi⟩
  · obtain rfl : v = .slice none 0 0 := by simpa using hcs
    exact ⟨none, 0, [], rfl, Sl.nil _ 6, ⟨Nat.le_refl _, Nat.zero_le _⟩, fun x hx => by cases hx⟩
  · obtain rfl : v = .slice (some a) len cap := by simpa using hcs
    simp only [if_true] at hmm
    subst hmm
    have hC : Tryd.prog.cellsOf 62 = 6 := by kernel_rfl
    have each : ∀ i, i < m → ∃ x : LineM, (∀ j u, (lineV x)[j]? = some u → W.cell? (a.add (i * 6 + j)) = some u) ∧ (i < len → LineRaw W x) := by
      intro i hi'
      obtain ⟨cs', hc, ht'⟩ := hi i hi'
      rw [hC] at hc
      obtain ⟨_, hcl, hat⟩ := World.cells?_some hc
      obtain ⟨x, e, hw⟩ := tr_line ht'
      refine ⟨x, fun j u hu => ?_, fun hil => ?_⟩
      · have hj : j < 6 := by have := (List.getElem?_eq_some_iff.1 hu).1; exact this
        rw [← Go.Deep.add_add, hat j hj, e]
        exact hu
      · have hbk : Rows.uptoBulk (D i) ≤ Rows.uptoBulk y.1 := by rw [hx]; exact bulk_elem (List.mem_map.2 ⟨i, List.mem_range.2 hil, rfl⟩)
        exact hw
    obtain ⟨X, hX⟩ := choose_lt each
    have ht : ((List.range len).map X).length = len := by simp
    refine ⟨some a, m, (List.range len).map X, by rw [ht], ?_, ⟨by omega, by omega⟩, ?_⟩
    · rw [ht]
      exact sl_rowsQ lineV 6 (fun _ => rfl) (by decide) X (fun i hi' => (hX i (by omega)).1)
    · intro x hx
      obtain ⟨i, hi', rfl⟩ := List.mem_map.1 hx
      have := List.mem_range.1 hi'
      exact (hX i (by omega)).2 this
theorem tr_taken {H : Type} {enc : TypeId × Value → H} {W : World} {n : Nat} {cs : List Value} {y : DataW H × List MemPlace} (h : DataW.trod enc Tryd.prog W 0 (fun _ => true) true n 78 cs = some y) : ∃ x : Int × Int, cs = takenV x ∧ I64 x.1 ∧ I64 x.2 := by
  obtain ⟨xs, n', _, hy, hl, hlen, hf⟩ := DataW.trod_struct Tryd.underlying78 h
  rw [(by kernel_rfl : Tryd.prog.cellsOf 78 = 2)] at hl
  match cs, hl with
  | [c0, c1], _ =>
    have h0 : DataW.trod enc Tryd.prog W 0 (fun _ => true) true n' 3 (List.take (Tryd.prog.cellsOf 3) (List.drop 0 [c0, c1])) = xs[0]? := hf 0 _ rfl
    have h1 : DataW.trod enc Tryd.prog W 0 (fun _ => true) true n' 3 (List.take (Tryd.prog.cellsOf 3) (List.drop 1 [c0, c1])) = xs[1]? := hf 1 _ rfl
    rw [(by kernel_rfl : Tryd.prog.cellsOf 3 = 1)] at h0 h1
    simp only [List.drop_succ_cons, List.drop_zero, List.take_succ_cons, List.take_zero] at h0 h1
    have g : ∀ j : Nat, j < 2 → ∃ z, xs[j]? = some z := fun j hj => ⟨_, List.getElem?_eq_getElem (by rw [hlen]; exact hj)⟩
    obtain ⟨z0, e0⟩ := g 0 (by decide)
    rw [e0] at h0
    obtain ⟨z1, e1⟩ := g 1 (by decide)
    rw [e1] at h1
    have hb : ∀ (j : Nat) z, xs[j]? = some z → Rows.uptoBulk z.1 ≤ Rows.uptoBulk y.1 := fun j z hz => by rw [hy]; exact bulk_agg hz
    obtain ⟨i0, q0, _, w0⟩ := DataW.trod_int Tryd.underlying3 h0
    simp only [List.cons.injEq, and_true] at q0
    subst q0
    obtain ⟨i1, q1, _, w1⟩ := DataW.trod_int Tryd.underlying3 h1
    simp only [List.cons.injEq, and_true] at q1
    subst q1
    exact ⟨(i0, i1), rfl, bounds_i64 w0, bounds_i64 w1⟩
theorem tr_takens {H : Type} {enc : TypeId × Value → H} {W : World} {n : Nat} {v : Value} {y : DataW H × List MemPlace} (h : DataW.trod enc Tryd.prog W 0 (fun _ => true) true n 35 [v] = some y) :
    ∃ (A : Option Addr) (c : Nat) (l : List (Int × Int)), v = .slice A l.length c ∧ Sl W W.heap.size 2 A l.length (l.flatMap takenV) ∧ (l.length ≤ c ∧ c ≤ maxLen) ∧ ∀ x ∈ l, I64 x.1 ∧ I64 x.2 := by
  rcases open_slice Tryd.underlying35 h with ⟨hcs, _⟩ | ⟨a, len, cap, m, n', D, Pl, hcs, hb, hl, hm, hmm, hx, hi⟩
  · obtain rfl : v = .slice none 0 0 := by simpa using hcs
    exact ⟨none, 0, [], rfl, Sl.nil _ 2, ⟨Nat.le_refl _, Nat.zero_le _⟩, fun x hx => by cases hx⟩
  · obtain rfl : v = .slice (some a) len cap := by simpa using hcs
    simp only [if_true] at hmm
    subst hmm
    have hC : Tryd.prog.cellsOf 78 = 2 := by kernel_rfl
    have each : ∀ i, i < m → ∃ x : (Int × Int), (∀ j u, (takenV x)[j]? = some u → W.cell? (a.add (i * 2 + j)) = some u) ∧ (i < len → I64 x.1 ∧ I64 x.2) := by
      intro i hi'
      obtain ⟨cs', hc, ht'⟩ := hi i hi'
      rw [hC] at hc
      obtain ⟨_, hcl, hat⟩ := World.cells?_some hc
      obtain ⟨x, e, hw⟩ := tr_taken ht'
      refine ⟨x, fun j u hu => ?_, fun hil => ?_⟩
      · have hj : j < 2 := by have := (List.getElem?_eq_some_iff.1 hu).1; exact this
        rw [← Go.Deep.add_add, hat j hj, e]
        exact hu
      · have hbk : Rows.uptoBulk (D i) ≤ Rows.uptoBulk y.1 := by rw [hx]; exact bulk_elem (List.mem_map.2 ⟨i, List.mem_range.2 hil, rfl⟩)
        exact hw
    obtain ⟨X, hX⟩ := choose_lt each
    have ht : ((List.range len).map X).length = len := by simp
    refine ⟨some a, m, (List.range len).map X, by rw [ht], ?_, ⟨by omega, by omega⟩, ?_⟩
    · rw [ht]
      exact sl_rowsQ takenV 2 (fun _ => rfl) (by decide) X (fun i hi' => (hX i (by omega)).1)
    · intro x hx
      obtain ⟨i, hi', rfl⟩ := List.mem_map.1 hx
      have := List.mem_range.1 hi'
      exact (hX i (by omega)).2 this
theorem tr_slip {H : Type} {enc : TypeId × Value → H} {W : World} {n : Nat} {cs : List Value} {y : DataW H × List MemPlace} (h : DataW.trod enc Tryd.prog W 0 (fun _ => true) true n 37 cs = some y) : ∃ s : SlipM, cs = slipL s ∧ SlipRaw W s := by
  obtain ⟨xs, n', _, hy, hl, hlen, hf⟩ := DataW.trod_struct Tryd.underlying37 h
  rw [(by kernel_rfl : Tryd.prog.cellsOf 37 = 9)] at hl
  match cs, hl with
  | [c0, c1, c2, c3, c4, c5, c6, c7, c8], _ =>
    have h0 : DataW.trod enc Tryd.prog W 0 (fun _ => true) true n' 9 (List.take (Tryd.prog.cellsOf 9) (List.drop 0 [c0, c1, c2, c3, c4, c5, c6, c7, c8])) = xs[0]? := hf 0 _ rfl
    have h1 : DataW.trod enc Tryd.prog W 0 (fun _ => true) true n' 3 (List.take (Tryd.prog.cellsOf 3) (List.drop 1 [c0, c1, c2, c3, c4, c5, c6, c7, c8])) = xs[1]? := hf 1 _ rfl
    have h2 : DataW.trod enc Tryd.prog W 0 (fun _ => true) true n' 34 (List.take (Tryd.prog.cellsOf 34) (List.drop 2 [c0, c1, c2, c3, c4, c5, c6, c7, c8])) = xs[2]? := hf 2 _ rfl
    have h3 : DataW.trod enc Tryd.prog W 0 (fun _ => true) true n' 3 (List.take (Tryd.prog.cellsOf 3) (List.drop 3 [c0, c1, c2, c3, c4, c5, c6, c7, c8])) = xs[3]? := hf 3 _ rfl
    have h4 : DataW.trod enc Tryd.prog W 0 (fun _ => true) true n' 3 (List.take (Tryd.prog.cellsOf 3) (List.drop 4 [c0, c1, c2, c3, c4, c5, c6, c7, c8])) = xs[4]? := hf 4 _ rfl
    have h5 : DataW.trod enc Tryd.prog W 0 (fun _ => true) true n' 3 (List.take (Tryd.prog.cellsOf 3) (List.drop 5 [c0, c1, c2, c3, c4, c5, c6, c7, c8])) = xs[5]? := hf 5 _ rfl
    have h6 : DataW.trod enc Tryd.prog W 0 (fun _ => true) true n' 3 (List.take (Tryd.prog.cellsOf 3) (List.drop 6 [c0, c1, c2, c3, c4, c5, c6, c7, c8])) = xs[6]? := hf 6 _ rfl
    have h7 : DataW.trod enc Tryd.prog W 0 (fun _ => true) true n' 35 (List.take (Tryd.prog.cellsOf 35) (List.drop 7 [c0, c1, c2, c3, c4, c5, c6, c7, c8])) = xs[7]? := hf 7 _ rfl
    have h8 : DataW.trod enc Tryd.prog W 0 (fun _ => true) true n' 3 (List.take (Tryd.prog.cellsOf 3) (List.drop 8 [c0, c1, c2, c3, c4, c5, c6, c7, c8])) = xs[8]? := hf 8 _ rfl
    rw [(by kernel_rfl : Tryd.prog.cellsOf 9 = 1)] at h0
    rw [(by kernel_rfl : Tryd.prog.cellsOf 3 = 1)] at h1 h3 h4 h5 h6 h8
    rw [(by kernel_rfl : Tryd.prog.cellsOf 34 = 1)] at h2
    rw [(by kernel_rfl : Tryd.prog.cellsOf 35 = 1)] at h7
    simp only [List.drop_succ_cons, List.drop_zero, List.take_succ_cons, List.take_zero] at h0 h1 h2 h3 h4 h5 h6 h7 h8
    have g : ∀ j : Nat, j < 9 → ∃ z, xs[j]? = some z := fun j hj => ⟨_, List.getElem?_eq_getElem (by rw [hlen]; exact hj)⟩
    obtain ⟨z0, e0⟩ := g 0 (by decide)
    rw [e0] at h0
    obtain ⟨z1, e1⟩ := g 1 (by decide)
    rw [e1] at h1
    obtain ⟨z2, e2⟩ := g 2 (by decide)
    rw [e2] at h2
    obtain ⟨z3, e3⟩ := g 3 (by decide)
    rw [e3] at h3
    obtain ⟨z4, e4⟩ := g 4 (by decide)
    rw [e4] at h4
    obtain ⟨z5, e5⟩ := g 5 (by decide)
    rw [e5] at h5
    obtain ⟨z6, e6⟩ := g 6 (by decide)
    rw [e6] at h6
    obtain ⟨z7, e7⟩ := g 7 (by decide)
    rw [e7] at h7
    obtain ⟨z8, e8⟩ := g 8 (by decide)
    rw [e8] at h8
    have hb : ∀ (j : Nat) z, xs[j]? = some z → Rows.uptoBulk z.1 ≤ Rows.uptoBulk y.1 := fun j z hz => by rw [hy]; exact bulk_agg hz
    obtain ⟨s0, q0, u0, w0⟩ := DataW.trod_string Tryd.underlying9 h0
    simp only [List.cons.injEq, and_true] at q0
    subst q0
    have b0 : s0.size ≤ Rows.uptoBulk y.1 := by have h1 := hb 0 _ e0; rw [u0] at h1; exact Nat.le_trans (bulk_str s0) h1
    obtain ⟨i1, q1, _, w1⟩ := DataW.trod_int Tryd.underlying3 h1
    simp only [List.cons.injEq, and_true] at q1
    subst q1
    obtain ⟨A2, k2, l2, q2, s2, n2, b2⟩ := tr_lines h2
    obtain ⟨i3, q3, _, w3⟩ := DataW.trod_int Tryd.underlying3 h3
    simp only [List.cons.injEq, and_true] at q3
    subst q3
    obtain ⟨i4, q4, _, w4⟩ := DataW.trod_int Tryd.underlying3 h4
    simp only [List.cons.injEq, and_true] at q4
    subst q4
    obtain ⟨i5, q5, _, w5⟩ := DataW.trod_int Tryd.underlying3 h5
    simp only [List.cons.injEq, and_true] at q5
    subst q5
    obtain ⟨i6, q6, _, w6⟩ := DataW.trod_int Tryd.underlying3 h6
    simp only [List.cons.injEq, and_true] at q6
    subst q6
    obtain ⟨A7, k7, l7, q7, s7, n7, b7⟩ := tr_takens h7
    obtain ⟨i8, q8, _, w8⟩ := DataW.trod_int Tryd.underlying3 h8
    simp only [List.cons.injEq, and_true] at q8
    subst q8
    subst q2 q7
    exact ⟨⟨s0, i1, A2, k2, l2, i3, i4, i5, i6, A7, k7, l7, i8⟩, rfl, ⟨s2, s7, b2, w0, bounds_i64 w1, Nat.le_trans n2.1 n2.2, Nat.le_trans n7.1 n7.2, b7, bounds_i64 w3, bounds_i64 w4, bounds_i64 w5, bounds_i64 w6, bounds_i64 w8⟩⟩
theorem open_slip {H : Type} {enc : TypeId × Value → H} {W : World} {base : Nat} {v : Value} {d : DataW H} {p : List MemPlace} (hv : Value.okWide Tryd.prog W .any base 37 v) (h : DataW.Trod enc Tryd.prog W 0 (fun _ => true) true 37 v d p) :
    ∃ s : SlipM, v = slipV s ∧ SlipRaw W s := by
  obtain ⟨cs, rfl, hsz⟩ := okWide_struct Tryd.underlying37 hv
  obtain ⟨fuel, hf⟩ := h
  obtain ⟨s, e, hs⟩ := tr_slip hf
  refine ⟨s, ?_, hs⟩
  obtain ⟨l⟩ := cs
  have : l = slipL s := by simpa [Value.cells] using e
  rw [this]
  rfl
theorem tr_row {H : Type} {enc : TypeId × Value → H} {W : World} {n : Nat} {cs : List Value} {y : DataW H × List MemPlace} (h : DataW.trod enc Tryd.prog W 0 (fun _ => true) true n 64 cs = some y) : ∃ x : RowD, cs = rowV x ∧ x.l.size ≤ Rows.uptoBulk y.1 ∧ x.r.size ≤ Rows.uptoBulk y.1 ∧ I64 x.c := by
  obtain ⟨xs, n', _, hy, hl, hlen, hf⟩ := DataW.trod_struct Tryd.underlying64 h
  rw [(by kernel_rfl : Tryd.prog.cellsOf 64 = 3)] at hl
  match cs, hl with
  | [c0, c1, c2], _ =>
    have h0 : DataW.trod enc Tryd.prog W 0 (fun _ => true) true n' 9 (List.take (Tryd.prog.cellsOf 9) (List.drop 0 [c0, c1, c2])) = xs[0]? := hf 0 _ rfl
    have h1 : DataW.trod enc Tryd.prog W 0 (fun _ => true) true n' 3 (List.take (Tryd.prog.cellsOf 3) (List.drop 1 [c0, c1, c2])) = xs[1]? := hf 1 _ rfl
    have h2 : DataW.trod enc Tryd.prog W 0 (fun _ => true) true n' 9 (List.take (Tryd.prog.cellsOf 9) (List.drop 2 [c0, c1, c2])) = xs[2]? := hf 2 _ rfl
    rw [(by kernel_rfl : Tryd.prog.cellsOf 9 = 1)] at h0 h2
    rw [(by kernel_rfl : Tryd.prog.cellsOf 3 = 1)] at h1
    simp only [List.drop_succ_cons, List.drop_zero, List.take_succ_cons, List.take_zero] at h0 h1 h2
    have g : ∀ j : Nat, j < 3 → ∃ z, xs[j]? = some z := fun j hj => ⟨_, List.getElem?_eq_getElem (by rw [hlen]; exact hj)⟩
    obtain ⟨z0, e0⟩ := g 0 (by decide)
    rw [e0] at h0
    obtain ⟨z1, e1⟩ := g 1 (by decide)
    rw [e1] at h1
    obtain ⟨z2, e2⟩ := g 2 (by decide)
    rw [e2] at h2
    have hb : ∀ (j : Nat) z, xs[j]? = some z → Rows.uptoBulk z.1 ≤ Rows.uptoBulk y.1 := fun j z hz => by rw [hy]; exact bulk_agg hz
    obtain ⟨s0, q0, u0, w0⟩ := DataW.trod_string Tryd.underlying9 h0
    simp only [List.cons.injEq, and_true] at q0
    subst q0
    have b0 : s0.size ≤ Rows.uptoBulk y.1 := by have h1 := hb 0 _ e0; rw [u0] at h1; exact Nat.le_trans (bulk_str s0) h1
    obtain ⟨i1, q1, _, w1⟩ := DataW.trod_int Tryd.underlying3 h1
    simp only [List.cons.injEq, and_true] at q1
    subst q1
    obtain ⟨s2, q2, u2, w2⟩ := DataW.trod_string Tryd.underlying9 h2
    simp only [List.cons.injEq, and_true] at q2
    subst q2
    have b2 : s2.size ≤ Rows.uptoBulk y.1 := by have h1 := hb 2 _ e2; rw [u2] at h1; exact Nat.le_trans (bulk_str s2) h1
    exact ⟨⟨s0, i1, s2⟩, rfl, b0, b2, bounds_i64 w1⟩
theorem tr_rowsQ {H : Type} {enc : TypeId × Value → H} {W : World} {n : Nat} {v : Value} {y : DataW H × List MemPlace} (h : DataW.trod enc Tryd.prog W 0 (fun _ => true) true n 38 [v] = some y) :
    ∃ (A : Option Addr) (c : Nat) (l : List RowD), v = .slice A l.length c ∧ Sl W W.heap.size 3 A l.length (l.flatMap rowV) ∧ (l.length ≤ c ∧ c ≤ maxLen) ∧ ∀ x ∈ l, x.l.size ≤ Rows.uptoBulk y.1 ∧ x.r.size ≤ Rows.uptoBulk y.1 ∧ I64 x.c := by
  rcases open_slice Tryd.underlying38 h with ⟨hcs, _⟩ | ⟨a, len, cap, m, n', D, Pl, hcs, hb, hl, hm, hmm, hx, hi⟩
  · obtain rfl : v = .slice none 0 0 := by simpa using hcs
    exact ⟨none, 0, [], rfl, Sl.nil _ 3, ⟨Nat.le_refl _, Nat.zero_le _⟩, fun x hx => by cases hx⟩
  · obtain rfl : v = .slice (some a) len cap := by simpa using hcs
    simp only [if_true] at hmm
    subst hmm
    have hC : Tryd.prog.cellsOf 64 = 3 := by kernel_rfl
    have each : ∀ i, i < m → ∃ x : RowD, (∀ j u, (rowV x)[j]? = some u → W.cell? (a.add (i * 3 + j)) = some u) ∧ (i < len → x.l.size ≤ Rows.uptoBulk y.1 ∧ x.r.size ≤ Rows.uptoBulk y.1 ∧ I64 x.c) := by
      intro i hi'
      obtain ⟨cs', hc, ht'⟩ := hi i hi'
      rw [hC] at hc
      obtain ⟨_, hcl, hat⟩ := World.cells?_some hc
      obtain ⟨x, e, hw⟩ := tr_row ht'
      refine ⟨x, fun j u hu => ?_, fun hil => ?_⟩
      · have hj : j < 3 := by have := (List.getElem?_eq_some_iff.1 hu).1; exact this
        rw [← Go.Deep.add_add, hat j hj, e]
        exact hu
      · have hbk : Rows.uptoBulk (D i) ≤ Rows.uptoBulk y.1 := by rw [hx]; exact bulk_elem (List.mem_map.2 ⟨i, List.mem_range.2 hil, rfl⟩)
        exact ⟨Nat.le_trans hw.1 hbk, Nat.le_trans hw.2.1 hbk, hw.2.2⟩
    obtain ⟨X, hX⟩ := choose_lt each
    have ht : ((List.range len).map X).length = len := by simp
    refine ⟨some a, m, (List.range len).map X, by rw [ht], ?_, ⟨by omega, by omega⟩, ?_⟩
    · rw [ht]
      exact sl_rowsQ rowV 3 (fun _ => rfl) (by decide) X (fun i hi' => (hX i (by omega)).1)
    · intro x hx
      obtain ⟨i, hi', rfl⟩ := List.mem_map.1 hx
      have := List.mem_range.1 hi'
      exact (hX i (by omega)).2 this
theorem tr_sheet {H : Type} {enc : TypeId × Value → H} {W : World} {n : Nat} {cs : List Value} {y : DataW H × List MemPlace} (h : DataW.trod enc Tryd.prog W 0 (fun _ => true) true n 43 cs = some y) : ∃ (pp : ByteArray) (pm : Int) (A : Option Addr) (ca : Nat) (rows : List RowD) (B : Option Addr) (cb : Nat) (bl : List Int) (r : UInt64), cs = [.string pp, .int .i64 pm, .slice A rows.length ca, .slice B bl.length cb, .int .u64 r.toNat] ∧ pp.size ≤ maxLen ∧ I64 pm ∧ Sl W W.heap.size 3 A rows.length (rowsV rows) ∧ Sl W W.heap.size 1 B bl.length (intV bl) ∧ rows.length ≤ maxLen ∧ bl.length ≤ maxLen ∧ (∀ x ∈ rows, x.l.size ≤ Rows.uptoBulk y.1 ∧ x.r.size ≤ Rows.uptoBulk y.1 ∧ I64 x.c) ∧ ∀ b ∈ bl, I64 b := by
  obtain ⟨xs, n', _, hy, hl, hlen, hf⟩ := DataW.trod_struct Tryd.underlying43 h
  rw [(by kernel_rfl : Tryd.prog.cellsOf 43 = 5)] at hl
  match cs, hl with
  | [c0, c1, c2, c3, c4], _ =>
    have h0 : DataW.trod enc Tryd.prog W 0 (fun _ => true) true n' 9 (List.take (Tryd.prog.cellsOf 9) (List.drop 0 [c0, c1, c2, c3, c4])) = xs[0]? := hf 0 _ rfl
    have h1 : DataW.trod enc Tryd.prog W 0 (fun _ => true) true n' 3 (List.take (Tryd.prog.cellsOf 3) (List.drop 1 [c0, c1, c2, c3, c4])) = xs[1]? := hf 1 _ rfl
    have h2 : DataW.trod enc Tryd.prog W 0 (fun _ => true) true n' 38 (List.take (Tryd.prog.cellsOf 38) (List.drop 2 [c0, c1, c2, c3, c4])) = xs[2]? := hf 2 _ rfl
    have h3 : DataW.trod enc Tryd.prog W 0 (fun _ => true) true n' 39 (List.take (Tryd.prog.cellsOf 39) (List.drop 3 [c0, c1, c2, c3, c4])) = xs[3]? := hf 3 _ rfl
    have h4 : DataW.trod enc Tryd.prog W 0 (fun _ => true) true n' 41 (List.take (Tryd.prog.cellsOf 41) (List.drop 4 [c0, c1, c2, c3, c4])) = xs[4]? := hf 4 _ rfl
    rw [(by kernel_rfl : Tryd.prog.cellsOf 9 = 1)] at h0
    rw [(by kernel_rfl : Tryd.prog.cellsOf 3 = 1)] at h1
    rw [(by kernel_rfl : Tryd.prog.cellsOf 38 = 1)] at h2
    rw [(by kernel_rfl : Tryd.prog.cellsOf 39 = 1)] at h3
    rw [(by kernel_rfl : Tryd.prog.cellsOf 41 = 1)] at h4
    simp only [List.drop_succ_cons, List.drop_zero, List.take_succ_cons, List.take_zero] at h0 h1 h2 h3 h4
    have g : ∀ j : Nat, j < 5 → ∃ z, xs[j]? = some z := fun j hj => ⟨_, List.getElem?_eq_getElem (by rw [hlen]; exact hj)⟩
    obtain ⟨z0, e0⟩ := g 0 (by decide)
    rw [e0] at h0
    obtain ⟨z1, e1⟩ := g 1 (by decide)
    rw [e1] at h1
    obtain ⟨z2, e2⟩ := g 2 (by decide)
    rw [e2] at h2
    obtain ⟨z3, e3⟩ := g 3 (by decide)
    rw [e3] at h3
    obtain ⟨z4, e4⟩ := g 4 (by decide)
    rw [e4] at h4
    have hb : ∀ (j : Nat) z, xs[j]? = some z → Rows.uptoBulk z.1 ≤ Rows.uptoBulk y.1 := fun j z hz => by rw [hy]; exact bulk_agg hz
    obtain ⟨s0, q0, u0, w0⟩ := DataW.trod_string Tryd.underlying9 h0
    simp only [List.cons.injEq, and_true] at q0
    subst q0
    have b0 : s0.size ≤ Rows.uptoBulk y.1 := by have h1 := hb 0 _ e0; rw [u0] at h1; exact Nat.le_trans (bulk_str s0) h1
    obtain ⟨i1, q1, _, w1⟩ := DataW.trod_int Tryd.underlying3 h1
    simp only [List.cons.injEq, and_true] at q1
    subst q1
    obtain ⟨A2, k2, l2, q2, s2, n2, b2⟩ := tr_rowsQ h2
    obtain ⟨A3, k3, l3, q3, s3, n3, b3⟩ := tr_ints h3
    obtain ⟨i4, q4, _, w4⟩ := DataW.trod_int Tryd.underlying41 h4
    simp only [List.cons.injEq, and_true] at q4
    subst q4
    subst q2 q3
    obtain ⟨r, rfl⟩ := u64_of_wf w4
    have hb2 := hb 2 _ e2
    exact ⟨s0, i1, A2, k2, l2, A3, k3, l3, r, rfl, w0, bounds_i64 w1, s2, s3, Nat.le_trans n2.1 n2.2, Nat.le_trans n3.1 n3.2, fun x hx => ⟨Nat.le_trans (b2 x hx).1 hb2, Nat.le_trans (b2 x hx).2.1 hb2, (b2 x hx).2.2⟩, b3⟩
theorem open_sheetQ {H : Type} {enc : TypeId × Value → H} {W : World} {base : Nat} {v : Value} {d : DataW H} {p : List MemPlace} (hv : Value.okWide Tryd.prog W .any base 43 v) (h : DataW.Trod enc Tryd.prog W 0 (fun _ => true) true 43 v d p) (hk : Rows.uptoBulk d ≤ 1048576) :
    ∃ (pp : ByteArray) (pm : Int) (A : Option Addr) (ca : Nat) (rows : List RowD) (B : Option Addr) (cb : Nat) (bl : List Int) (r : UInt64), v = .agg #[.string pp, .int .i64 pm, .slice A rows.length ca, .slice B bl.length cb, .int .u64 r.toNat] ∧ pp.size ≤ maxLen ∧ Sl W W.heap.size 3 A rows.length (rowsV rows) ∧ Sl W W.heap.size 1 B bl.length (intV bl) ∧ rows.length ≤ maxLen ∧ bl.length ≤ maxLen ∧ (∀ x ∈ rows, x.l.size ≤ 70368744177000 ∧ x.r.size ≤ 70368744177000 ∧ I64 x.c) ∧ ∀ b ∈ bl, I64 b := by
  obtain ⟨cs, rfl, hsz⟩ := okWide_struct Tryd.underlying43 hv
  obtain ⟨fuel, hf⟩ := h
  obtain ⟨pp, pm, A, ca, rows, B, cb, bl, r, e, h1, _, h2, h3, h4, h5, h6, h7⟩ := tr_sheet hf
  refine ⟨pp, pm, A, ca, rows, B, cb, bl, r, ?_, h1, h2, h3, h4, h5, fun x hx => ⟨Nat.le_trans (h6 x hx).1 (Nat.le_trans hk (by decide)), Nat.le_trans (h6 x hx).2.1 (Nat.le_trans hk (by decide)), (h6 x hx).2.2⟩, h7⟩
  obtain ⟨l⟩ := cs
  have : l = [.string pp, .int .i64 pm, .slice A rows.length ca, .slice B bl.length cb, .int .u64 r.toNat] := by simpa [Value.cells] using e
  rw [this]
end Go.Proofs.YtfjkmhbipkoefaaDoor
