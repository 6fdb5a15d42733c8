/- The walks of Small and small (layer 36): which arguments the laws look at. Slices of structs of one-cell fields, opened to their cells. Payslips and lists of integers as arguments: opened to the forms that the walks want. The reference's Name (layer 29). -/
import Derived.Test.YtfjkmhbipkoefaaGreatDoorQ22
import Derived.Test.YtfjkmhbipkoefaaGreatDoorQ01
import Derived.Deep.Slices
import Derived.Deep.Fields
import Derived.ChangeSame
import Derived.ChangeSlices
import Derived.Lib.SmallJoins
import Derived.Test.YtfjkmhbipkoefaaGreatDoorQ05
namespace Go.Proofs.YtfjkmhbipkoefaaGreatDoor
open Go.RowKit Go.Shelf
set_option linter.unusedVariables false
set_option linter.unusedSimpArgs false
set_option maxRecDepth 100000
def rowB (x : RowD) : Bool := decide (x.l.size ≤ 60 ∧ x.r.size ≤ 400)
def smallB (person : ByteArray) (n m : Nat) (rows : List RowD) : Bool := decide (n ≤ 24 ∧ m ≤ 33 ∧ person.size ≤ 40) && rows.all rowB
theorem small_no {person : ByteArray} {n m : Nat} {rows : List RowD} {k : Nat} (hk : k < rows.length) (h : rowB rows[k] = false) : smallB person n m rows = false := by
  unfold smallB
  cases he : rows.all rowB with
  | false => rw [Bool.and_false]
  | true =>
    have := List.all_eq_true.1 he _ (List.getElem_mem hk)
    rw [h] at this
    cases this
set_option maxHeartbeats 4000000 in
theorem rsmall_any (person : ByteArray) (month : Int) (root : UInt64) (A B : Option Addr) (ca cb n m : Nat) (rows : List RowD) (v : Bool) (hn : rows.length = n) (hv : Hid (smallB person n m rows = v)) (hnl : n ≤ maxLen) (hml : m ≤ maxLen) (hp : person.size ≤ maxLen) (w : World) (hA : Sl w w.heap.size 3 A n (rowsV rows)) (hs : ∀ x ∈ rows, x.l.size ≤ maxLen ∧ x.r.size ≤ maxLen) :
    Calls Tryz.prog 13 #[.agg #[.string person, .int .i64 month, .slice A n ca, .slice B m cb, .int .u64 root.toNat], .int .i64 24] w fun e w' => e = .returned (.bool v) ∧ Below w.heap.size w w' := by
  unfold maxLen at hnl hml hp hs
  by_cases h1 : n ≤ 24
  · have h1' : ¬ (24 : Int) < (n : Int) := by omega
    by_cases h2 : m ≤ 33
    · have h2' : ¬ (33 : Int) < (m : Int) := by omega
      by_cases h3 : person.size ≤ 40
      · have h3' : ¬ (40 : Int) < (person.size : Int) := by omega
        have hall : Hid (rows.all rowB = v) := Lib.hid (by rw [← hv.out]; unfold smallB; rw [decide_eq_true ⟨h1, h2, h3⟩, Bool.true_and])
        have HA := Lib.hid hA
        have Hn := Lib.hid hn
        have Hs := Lib.hid hs
        clear hA hn hs hv
        go_enter Tryz.func13, Tryz.ntmps13
        go_wp2_with fail
        obtain ⟨V, hV⟩ : ∃ Q : World, Q = w.alloc (.cells #[.string person, .int .i64 month, .slice A n ca, .slice B m cb, .int .u64 root.toNat] 27) := ⟨_, rfl⟩
        rw [← hV]
        have hBV : Below w.heap.size w V := by rw [hV]; exact bal (Below.refl _ _) _
        have gV : V.heap[w.heap.size]? = some (.cells #[.string person, .int .i64 month, .slice A n ca, .slice B m cb, .int .u64 root.toNat] 27 (0, 0)) := by rw [hV]; exact World.alloc_heap_new _ _
        have c2 : V.cell? ⟨w.heap.size, 2, none⟩ = some (.slice A n ca) := by rw [Lib.cell_of_heap gV]; rfl
        clear hV gV h1' h2' h3'
        go_loop [5] (fun i => ∃ k : Nat, k ≤ n ∧ i = .int .i64 (k : Int) ∧ ∀ j (h : j < rows.length), j < k → rowB rows[j] = true) (fun i => n - (intOf i).toNat)
        case atStart => exact ⟨0, Nat.zero_le _, rfl, fun j h hj => absurd hj (Nat.not_lt_zero j)⟩
        case round =>
          obtain ⟨k, hk, rfl, hok⟩ := hrel
          have Hok := Lib.hid hok
          clear hok
          by_cases hlt : k < n
          · have hlt' : (k : Int) < (n : Int) := by omega
            obtain ⟨b, off, rfl, hb, hcell⟩ := HA.out.2 (by omega)
            have hkl : k < rows.length := by rw [Hn.out]; exact hlt
            have hget := flat_get rowV 3 (fun _ => rfl) rows k hkl
            obtain ⟨x, hx⟩ : ∃ x, rows[k] = x := ⟨_, rfl⟩
            rw [hx] at hget
            have hxs := Hs.out x (by rw [← hx]; exact List.getElem_mem hkl)
            have y0 : V.cell? ⟨b, off + k * 3, none⟩ = some (.string x.l) := (hBV.cell (p := ⟨b, off + k * 3, none⟩) hb).trans (hcell _ _ (hget 0 (by decide)))
            have y2 : V.cell? ⟨b, off + k * 3 + 2, none⟩ = some (.string x.r) := (hBV.cell (p := ⟨b, off + k * 3 + 2, none⟩) hb).trans (hcell _ _ (hget 2 (by decide)))
            have Hno : Hid (rowB x = false → rows.all rowB = false) := Lib.hid fun h => by
              cases he : rows.all rowB with
              | false => rfl
              | true =>
                have := List.all_eq_true.1 he _ (List.getElem_mem hkl)
                rw [hx, h] at this
                cases this
            have Hyes : Hid (rowB x = true → ∀ j (h : j < rows.length), j < k + 1 → rowB rows[j] = true) := Lib.hid fun h j hj hjk => by
              by_cases e : j < k
              · exact Hok.out j hj e
              · obtain rfl : j = k := by omega
                rw [hx]; exact h
            obtain ⟨xl, xc, xr⟩ := x
            obtain ⟨hs1, hs2⟩ := hxs
            dsimp only at y0 y2 hs1 hs2
            clear hcell hget hx hkl
            by_cases q1 : xl.size ≤ 60
            · have q1' : ¬ (60 : Int) < (xl.size : Int) := by omega
              by_cases q2 : xr.size ≤ 400
              · have q2' : ¬ (400 : Int) < (xr.size : Int) := by omega
                have Hy := Lib.hid (Hyes.out (decide_eq_true ⟨q1, q2⟩))
                go_wp2
                go_round
                case rel => exact ⟨k + 1, by omega, by go_num, Hy.out⟩
                case measure => simp [intOf]; omega
              · have q2' : (400 : Int) < (xr.size : Int) := by omega
                have hF : Hid (v = false) := Lib.hid (by rw [← hall.out]; exact Hno.out (decide_eq_false fun h => q2 h.2))
                go_wp2
                go_ret
                exact ⟨by rw [hF.out] <;> rfl, hBV⟩
            · have q1' : (60 : Int) < (xl.size : Int) := by omega
              have hF : Hid (v = false) := Lib.hid (by rw [← hall.out]; exact Hno.out (decide_eq_false fun h => q1 h.1))
              go_wp2
              go_ret
              exact ⟨by rw [hF.out] <;> rfl, hBV⟩
          · obtain rfl : n = k := by omega
            have hF : Hid (v = true) := Lib.hid (by
              rw [← hall.out]
              refine List.all_eq_true.2 fun x hx => ?_
              obtain ⟨j, hj, rfl⟩ := List.getElem_of_mem hx
              exact Hok.out j hj (by rw [← Hn.out]; exact hj))
            go_wp2
            go_ret
            exact ⟨by rw [hF.out] <;> rfl, hBV⟩
      · have h3' : (40 : Int) < (person.size : Int) := by omega
        have hF : Hid (v = false) := Lib.hid (by rw [← hv.out]; unfold smallB; rw [decide_eq_false (fun h => h3 h.2.2), Bool.false_and])
        go_enter Tryz.func13, Tryz.ntmps13
        go_wp2_with fail
        go_ret
        exact ⟨by rw [hF.out] <;> rfl, bal (Below.refl _ _) _⟩
    · have h2' : (33 : Int) < (m : Int) := by omega
      have hF : Hid (v = false) := Lib.hid (by rw [← hv.out]; unfold smallB; rw [decide_eq_false (fun h => h2 h.2.1), Bool.false_and])
      go_enter Tryz.func13, Tryz.ntmps13
      go_wp2_with fail
      go_ret
      exact ⟨by rw [hF.out] <;> rfl, bal (Below.refl _ _) _⟩
  · have h1' : (24 : Int) < (n : Int) := by omega
    have hF : Hid (v = false) := Lib.hid (by rw [← hv.out]; unfold smallB; rw [decide_eq_false (fun h => h1 h.1), Bool.false_and])
    go_enter Tryz.func13, Tryz.ntmps13
    go_wp2_with fail
    go_ret
    exact ⟨by rw [hF.out] <;> rfl, bal (Below.refl _ _) _⟩
/-- The arguments that the laws look at. -/
def lightB (person : ByteArray) (n m : Nat) (rows : List RowD) (ns : Nat) (seed : ByteArray) (h : Int) : Bool := smallB person n m rows && decide (ns ≤ 40 ∧ seed.size ≤ 80 ∧ (h ≤ 3 ∨ 8 < h))
set_option maxHeartbeats 4000000 in
theorem light36_any (person : ByteArray) (month : Int) (root : UInt64) (A B E : Option Addr) (ca cb ce n m ns : Nat) (rows : List RowD) (seed : ByteArray) (h : Int) (v : Bool) (hn : rows.length = n) (hv : Hid (lightB person n m rows ns seed h = v)) (hnl : n ≤ maxLen) (hml : m ≤ maxLen) (hnsl : ns ≤ maxLen) (hp : person.size ≤ maxLen) (hsd : seed.size ≤ maxLen) (w : World) (hA : Sl w w.heap.size 3 A n (rowsV rows)) (hs : ∀ x ∈ rows, x.l.size ≤ maxLen ∧ x.r.size ≤ maxLen) :
    Calls Tryz.prog 5 #[.agg #[.string person, .int .i64 month, .slice A n ca, .slice B m cb, .int .u64 root.toNat], .slice E ns ce, .string seed, .int .i64 h] w fun e w' => e = .returned (.bool v) ∧ Below w.heap.size w w' := by
  have HA := Lib.hid hA
  have Hn := Lib.hid hn
  have Hs := Lib.hid hs
  have Hl := Lib.hid (And.intro hnl (And.intro hml hp))
  unfold maxLen at hnsl hsd
  clear hA hn hs hnl hml hp
  obtain ⟨b, hb⟩ : ∃ b, smallB person n m rows = b := ⟨_, rfl⟩
  have Hb := Lib.hid hb
  have hv' : Hid ((b && decide (ns ≤ 40 ∧ seed.size ≤ 80 ∧ (h ≤ 3 ∨ 8 < h))) = v) := Lib.hid (by rw [← hb]; exact hv.out)
  clear hb hv
  have hS := fun W hW => rsmall_any person month root A B ca cb n m rows b Hn.out Hb Hl.out.1 Hl.out.2.1 Hl.out.2.2 W hW Hs.out
  have HS := Lib.hid hS
  clear hS
  have hA1 : Sl (w.alloc (.cells #[.string person, .int .i64 month, .slice A n ca, .slice B m cb, .int .u64 root.toNat] 27)) (w.alloc (.cells #[.string person, .int .i64 month, .slice A n ca, .slice B m cb, .int .u64 root.toNat] 27)).heap.size 3 A n (rowsV rows) := HA.out.al _
  have HA1 := Lib.hid hA1
  clear hA1
  cases b with
  | false =>
    have hF : Hid (v = false) := Lib.hid (by rw [← hv'.out]; rfl)
    go_enter Tryz.func5, Tryz.ntmps5
    go_wp2_with fail
    refine (HS.out _ HA1.out).mono ?_
    rintro e w1 ⟨rfl, hB1⟩
    go_wp2_with fail
    go_ret
    exact ⟨by rw [hF.out] <;> rfl, bgo (bal (Below.refl _ _) _) hB1⟩
  | true =>
    by_cases q1 : ns ≤ 40
    · by_cases q2 : seed.size ≤ 80
      · by_cases q3 : h ≤ 3
        · have hF : Hid (v = true) := Lib.hid (by rw [← hv'.out, decide_eq_true ⟨q1, q2, .inl q3⟩]; rfl)
          have q1' : (ns : Int) ≤ 40 := by omega
          have q2' : (seed.size : Int) ≤ 80 := by omega
          go_enter Tryz.func5, Tryz.ntmps5
          go_wp2_with fail
          refine (HS.out _ HA1.out).mono ?_
          rintro e w1 ⟨rfl, hB1⟩
          go_wp2_with fail
          go_ret
          exact ⟨by rw [hF.out] <;> rfl, bgo (bal (Below.refl _ _) _) hB1⟩
        · by_cases q4 : 8 < h
          · have hF : Hid (v = true) := Lib.hid (by rw [← hv'.out, decide_eq_true ⟨q1, q2, .inr q4⟩]; rfl)
            have q1' : (ns : Int) ≤ 40 := by omega
            have q2' : (seed.size : Int) ≤ 80 := by omega
            have q3' : decide (h ≤ 3) = false := decide_eq_false q3
            go_enter Tryz.func5, Tryz.ntmps5
            go_wp2_with fail
            refine (HS.out _ HA1.out).mono ?_
            rintro e w1 ⟨rfl, hB1⟩
            go_wp2_with fail
            go_ret
            exact ⟨by rw [hF.out] <;> rfl, bgo (bal (Below.refl _ _) _) hB1⟩
          · have hF : Hid (v = false) := Lib.hid (by rw [← hv'.out, decide_eq_false (fun hh => hh.2.2.elim q3 q4)]; rfl)
            have q1' : (ns : Int) ≤ 40 := by omega
            have q2' : (seed.size : Int) ≤ 80 := by omega
            have q3' : decide (h ≤ 3) = false := decide_eq_false q3
            have q4' : decide (8 < h) = false := decide_eq_false q4
            go_enter Tryz.func5, Tryz.ntmps5
            go_wp2_with fail
            refine (HS.out _ HA1.out).mono ?_
            rintro e w1 ⟨rfl, hB1⟩
            go_wp2_with fail
            go_ret
            exact ⟨by rw [hF.out] <;> rfl, bgo (bal (Below.refl _ _) _) hB1⟩
      · have hF : Hid (v = false) := Lib.hid (by rw [← hv'.out, decide_eq_false (fun hh => q2 hh.2.1)]; rfl)
        have q1' : (ns : Int) ≤ 40 := by omega
        have q2' : ¬ (seed.size : Int) ≤ 80 := by omega
        go_enter Tryz.func5, Tryz.ntmps5
        go_wp2_with fail
        refine (HS.out _ HA1.out).mono ?_
        rintro e w1 ⟨rfl, hB1⟩
        go_wp2_with fail
        go_ret
        exact ⟨by rw [hF.out] <;> rfl, bgo (bal (Below.refl _ _) _) hB1⟩
    · have hF : Hid (v = false) := Lib.hid (by rw [← hv'.out, decide_eq_false (fun hh => q1 hh.1)]; rfl)
      have q1' : ¬ (ns : Int) ≤ 40 := by omega
      go_enter Tryz.func5, Tryz.ntmps5
      go_wp2_with fail
      refine (HS.out _ HA1.out).mono ?_
      rintro e w1 ⟨rfl, hB1⟩
      go_wp2_with fail
      go_ret
      exact ⟨by rw [hF.out] <;> rfl, bgo (bal (Below.refl _ _) _) hB1⟩
end Go.Proofs.YtfjkmhbipkoefaaGreatDoor
namespace Go.Proofs.YtfjkmhbipkoefaaGreatDoor
open Go.RowKit Go.ChangeShapes Go.WideShapes Go.Deep
set_option linter.unusedVariables false
set_option maxRecDepth 100000
section
variable {H : Type} {enc : TypeId × Value → H} {P : Program} {w : World} {base : Nat} {spare : Nat → Bool} {held : Bool}
theorem open_slice_fields {t e : TypeId} {fs : Array Field} {fuel : Nat} {cs : List Value} {x : DataW H × List MemPlace} (ht : P.underlying t = some (.slice e)) (he : P.underlying e = some (.struct fs))
    (hone : oneCellFields P fs = true) (hC : P.cellsOf e = fs.size) (h : DataW.trod enc P w base spare held fuel t cs = some x) :
    (cs = [.slice none 0 0] ∧ x = (.nil, [])) ∨
    ∃ (a : Addr) (len cap m : Nat) (D : Nat → DataW H) (Pl : Nat → List MemPlace), cs = [.slice (some a) len cap] ∧ base ≤ a.block ∧ len ≤ cap ∧ cap ≤ maxLen ∧ m = (if spare a.block then cap else len) ∧
      x = (.slice ((List.range len).map D) ((List.range (m - len)).map fun j => D (len + j)), MemPlace.row a (m * fs.size) ++ (List.range m).flatMap Pl) ∧
      ∀ i, i < m → ∃ (ys : List (DataW H × List MemPlace)) (n : Nat), D i = .agg (ys.map (·.1)) ∧ Pl i = ys.flatMap (·.2) ∧ ys.length = fs.size ∧
        ∀ (j : Nat) (f : Field), fs[j]? = some f → ∃ (v : Value) (y : DataW H × List MemPlace), w.cell? (a.add (i * fs.size + j)) = some v ∧ ys[j]? = some y ∧ DataW.trod enc P w base spare held n f.type [v] = some y := by
  rcases open_slice ht h with h0 | ⟨a, len, cap, m, n, D, Pl, hcs, hb, hl, hm, hmm, hx, hi⟩
  · exact .inl h0
  · refine .inr ⟨a, len, cap, m, D, Pl, hcs, hb, hl, hm, hmm, by rw [hC] at hx; exact hx, fun i him => ?_⟩
    obtain ⟨cs', hc, ht'⟩ := hi i him
    rw [hC] at hc
    obtain ⟨ys, n', hn', hy, hlen, hyl, hf⟩ := DataW.trod_struct he ht'
    obtain ⟨_, hcl, hat⟩ := World.cells?_some hc
    simp only [Prod.mk.injEq] at hy
    refine ⟨ys, n', hy.1, hy.2, hyl, fun j f hj => ?_⟩
    obtain ⟨ho, hk⟩ := hone_of hone j f hj
    have hjl : j < fs.size := (Array.getElem?_eq_some_iff.1 hj).1
    have hcell := hat j hjl
    have hv : cs'[j]? = some (cs'[j]'(by omega)) := List.getElem?_eq_getElem (by omega)
    have h1 := hf j f hj
    rw [ho, hk] at h1
    have hone' : (cs'.drop j).take 1 = [cs'[j]'(by omega)] := by
      rw [List.drop_eq_getElem_cons (by omega)]
      rfl
    rw [hone'] at h1
    have hys : ys[j]? = some (ys[j]'(by omega)) := List.getElem?_eq_getElem (by omega)
    refine ⟨_, _, ?_, hys, h1.trans hys⟩
    rw [← Go.Deep.add_add, hcell, hv]
end
end Go.Proofs.YtfjkmhbipkoefaaGreatDoor
namespace Go.Proofs.YtfjkmhbipkoefaaGreatDoor
open Go.RowKit Go.ChangeShapes Go.WideShapes Go.Deep Go.Shelf
set_option linter.unusedVariables false
set_option linter.unusedSimpArgs false
set_option maxRecDepth 100000
theorem cells_int36 : Tryz.prog.cellsOf 3 = 1 := by kernel_rfl
theorem tr_ints {H : Type} {enc : TypeId × Value → H} {W : World} {n : Nat} {v : Value} {y : DataW H × List MemPlace} (h : DataW.trod enc Tryz.prog W 0 (fun _ => true) true n 23 [v] = some y) :
    ∃ (A : Option Addr) (c : Nat) (l : List Int), v = .slice A l.length c ∧ Sl W W.heap.size 1 A l.length (intV l) ∧ (l.length ≤ c ∧ c ≤ maxLen) ∧ ∀ x ∈ l, I64 x := by
  rcases open_ints Tryz.underlying23 Tryz.underlying3 cells_int36 h with ⟨hcs, hx⟩ | ⟨a, len, cap, zs, hcs, _, hl, hm, hz, hx, hcell, hws⟩
  · obtain rfl : v = .slice none 0 0 := by simpa using hcs
    exact ⟨none, 0, [], rfl, Sl.nil _ 1, ⟨Nat.le_refl _, Nat.zero_le _⟩, fun s h => by cases h⟩
  · obtain rfl : v = .slice (some a) len cap := by simpa using hcs
    simp only [if_true] at hz
    have hlen : (zs.take len).length = len := by rw [List.length_take]; omega
    refine ⟨some a, cap, zs.take len, by rw [hlen], ?_, ⟨by omega, by omega⟩, fun s h => bounds_i64 (hws s (List.mem_of_mem_take h))⟩
    refine sl_of_row (by simp [intV]) (fun _ => Nat.one_pos) ?_
    intro j u hu
    obtain ⟨hj, e⟩ := List.getElem?_eq_some_iff.1 hu
    have hj' : j < len := by simp [intV] at hj; omega
    rw [hcell j (by omega), ← e]
    simp [intV, List.getD, show j < zs.length by omega]
theorem sl_ints {H : Type} {enc : TypeId × Value → H} {W : World} {base : Nat} {v : Value} {d : DataW H} {p : List MemPlace} (hv : Value.okWide Tryz.prog W .any base 23 v) (h : DataW.Trod enc Tryz.prog W 0 (fun _ => true) true 23 v d p) :
    ∃ (A : Option Addr) (c : Nat) (l : List Int), v = .slice A l.length c ∧ Sl W W.heap.size 1 A l.length (intV l) ∧ (l.length ≤ c ∧ c ≤ maxLen) ∧ ∀ x ∈ l, I64 x := by
  obtain ⟨a0, len, cap, rfl⟩ := okWide_slice Tryz.underlying23 hv
  obtain ⟨fuel, hf⟩ := h
  exact tr_ints hf
theorem tr_rows {H : Type} {enc : TypeId × Value → H} {W : World} {n : Nat} {v : Value} {y : DataW H × List MemPlace} (h : DataW.trod enc Tryz.prog W 0 (fun _ => true) true n 22 [v] = some y) :
    ∃ (A : Option Addr) (c : Nat) (l : List RowD), v = .slice A l.length c ∧ Sl W W.heap.size 3 A l.length (rowsV l) ∧ (l.length ≤ c ∧ c ≤ maxLen) ∧ ∀ x ∈ l, x.l.size ≤ maxLen ∧ x.r.size ≤ maxLen ∧ I64 x.c := by
  rcases open_slice_fields Tryz.underlying22 Tryz.underlying46 (by kernel_rfl) (by kernel_rfl) h with ⟨hcs, _⟩ | ⟨a, len, cap, m, D, Pl, hcs, _, hl, hm, hmm, hx, hall⟩
  · obtain rfl : v = .slice none 0 0 := by simpa using hcs
    exact ⟨none, 0, [], rfl, Sl.nil _ 3, ⟨Nat.le_refl _, Nat.zero_le _⟩, fun x hx => by cases hx⟩
  · obtain rfl : v = .slice (some a) len cap := by simpa using hcs
    simp only [if_true] at hmm
    subst hmm
    have each : ∀ i, i < m → ∃ x : RowD, W.cell? (a.add (i * 3 + 0)) = some (.string x.l) ∧ W.cell? (a.add (i * 3 + 1)) = some (.int .i64 x.c) ∧ W.cell? (a.add (i * 3 + 2)) = some (.string x.r) ∧ x.l.size ≤ maxLen ∧ x.r.size ≤ maxLen ∧ I64 x.c := by
      intro i hi
      obtain ⟨ys, n', _, _, _, hf⟩ := hall i hi
      obtain ⟨v0, y0, c0, _, t0⟩ := hf 0 _ rfl
      obtain ⟨v1, y1, c1, _, t1⟩ := hf 1 _ rfl
      obtain ⟨v2, y2, c2, _, t2⟩ := hf 2 _ rfl
      obtain ⟨s0, hs0, _, hw0⟩ := DataW.trod_string Tryz.underlying9 t0
      obtain rfl : v0 = .string s0 := by simpa using hs0
      obtain ⟨z, hz, _, hw⟩ := DataW.trod_int Tryz.underlying3 t1
      obtain rfl : v1 = .int .i64 z := by simpa using hz
      obtain ⟨s2, hs2, _, hw2⟩ := DataW.trod_string Tryz.underlying9 t2
      obtain rfl : v2 = .string s2 := by simpa using hs2
      exact ⟨⟨s0, z, s2⟩, c0, c1, c2, hw0, hw2, bounds_i64 hw⟩
    obtain ⟨X, hX⟩ := choose_lt each
    have ht : ((List.range len).map X).length = len := by simp
    refine ⟨some a, m, (List.range len).map X, by rw [ht], ?_, ⟨by omega, by omega⟩, ?_⟩
    · refine sl_of_row (by rw [rows_len]) (fun _ => by omega) ?_
      intro j u hu
      obtain ⟨hj, e⟩ := List.getElem?_eq_some_iff.1 hu
      rw [rows_len, ht] at hj
      have hq : j / 3 < len := by omega
      obtain ⟨c0, c1, c2, _⟩ := hX (j / 3) (by omega)
      have hql : j / 3 < ((List.range len).map X).length := by rw [ht]; exact hq
      have hget := flat_get rowV 3 (fun _ => rfl) ((List.range len).map X) (j / 3) hql
      have g0 : (rowsV ((List.range len).map X))[j / 3 * 3 + 0]? = _ := hget 0 (by decide)
      have g1 : (rowsV ((List.range len).map X))[j / 3 * 3 + 1]? = _ := hget 1 (by decide)
      have g2 : (rowsV ((List.range len).map X))[j / 3 * 3 + 2]? = _ := hget 2 (by decide)
      have hj3 : j = j / 3 * 3 + 0 ∨ j = j / 3 * 3 + 1 ∨ j = j / 3 * 3 + 2 := by omega
      rcases hj3 with hjj | hjj | hjj
      · rw [Nat.add_zero] at hjj
        rw [Nat.add_zero, ← hjj, hu] at g0
        rw [Nat.add_zero, ← hjj] at c0
        rw [c0, Option.some.inj g0]
        simp
      · rw [← hjj, hu] at g1
        rw [← hjj] at c1
        rw [c1, Option.some.inj g1]
        simp
      · rw [← hjj, hu] at g2
        rw [← hjj] at c2
        rw [c2, Option.some.inj g2]
        simp
    · intro x hx
      obtain ⟨i, hi, rfl⟩ := List.mem_map.1 hx
      exact (hX i (by have := List.mem_range.1 hi; omega)).2.2.2
/-- A payslip, with the places of its lists. -/
structure ShtM where
  person : ByteArray
  month : Int
  A : Option Addr
  ca : Nat
  rows : List RowD
  B : Option Addr
  cb : Nat
  bl : List Int
  root : UInt64
def shtV (q : ShtM) : Value := .agg #[.string q.person, .int .i64 q.month, .slice q.A q.rows.length q.ca, .slice q.B q.bl.length q.cb, .int .u64 q.root.toNat]
structure ShtOk (W : World) (q : ShtM) : Prop where
  hp : q.person.size ≤ maxLen
  hm : I64 q.month
  a : Sl W W.heap.size 3 q.A q.rows.length (rowsV q.rows)
  b : Sl W W.heap.size 1 q.B q.bl.length (intV q.bl)
  la : q.rows.length ≤ q.ca ∧ q.ca ≤ maxLen
  lb : q.bl.length ≤ q.cb ∧ q.cb ≤ maxLen
  rs : ∀ x ∈ q.rows, x.l.size ≤ maxLen ∧ x.r.size ≤ maxLen ∧ I64 x.c
  bs : ∀ b ∈ q.bl, I64 b
theorem ShtOk.go {W W' : World} {q : ShtM} (h : ShtOk W q) (k : Below W.heap.size W W') : ShtOk W' q := ⟨h.hp, h.hm, h.a.go k, h.b.go k, h.la, h.lb, h.rs, h.bs⟩
section
variable {H : Type} {enc : TypeId × Value → H} {P : Program} {w : World} {base : Nat} {spare : Nat → Bool} {held : Bool}
theorem open_agg5 {r : Reach} {b0 : Nat} {t : TypeId} {f0 f1 f2 f3 f4 : Field} {v : Value} {d : DataW H} {p : List MemPlace} (hs : P.underlying t = some (.struct #[f0, f1, f2, f3, f4])) (hone : oneCellFields P #[f0, f1, f2, f3, f4] = true) (hC : P.cellsOf t = 5)
    (hv : Value.okWide P w r b0 t v) (h : DataW.Trod enc P w base spare held t v d p) :
    ∃ (v0 v1 v2 v3 v4 : Value) (y0 y1 y2 y3 y4 : DataW H × List MemPlace) (n : Nat), v = .agg #[v0, v1, v2, v3, v4] ∧
      DataW.trod enc P w base spare held n f0.type [v0] = some y0 ∧ DataW.trod enc P w base spare held n f1.type [v1] = some y1 ∧ DataW.trod enc P w base spare held n f2.type [v2] = some y2 ∧ DataW.trod enc P w base spare held n f3.type [v3] = some y3 ∧ DataW.trod enc P w base spare held n f4.type [v4] = some y4 := by
  obtain ⟨cs, rfl, hsz⟩ := okWide_struct hs hv
  have h5 : cs.size = 5 := hsz.trans hC
  obtain ⟨c0, c1, c2, c3, c4, rfl⟩ : ∃ c0 c1 c2 c3 c4, cs = #[c0, c1, c2, c3, c4] := by
    obtain ⟨l⟩ := cs
    match l, h5 with
    | [c0, c1, c2, c3, c4], _ => exact ⟨c0, c1, c2, c3, c4, rfl⟩
  obtain ⟨fuel, hf⟩ := h
  obtain ⟨xs, n, _, _, _, hlen, hg⟩ := DataW.trod_struct hs hf
  match xs, hlen with
  | [y0, y1, y2, y3, y4], _ =>
    obtain ⟨o0, k0⟩ := hone_of hone 0 f0 rfl
    obtain ⟨o1, k1⟩ := hone_of hone 1 f1 rfl
    obtain ⟨o2, k2⟩ := hone_of hone 2 f2 rfl
    obtain ⟨o3, k3⟩ := hone_of hone 3 f3 rfl
    obtain ⟨o4, k4⟩ := hone_of hone 4 f4 rfl
    exact ⟨c0, c1, c2, c3, c4, y0, y1, y2, y3, y4, n, rfl, by simpa [Value.cells, o0, k0] using hg 0 f0 rfl, by simpa [Value.cells, o1, k1] using hg 1 f1 rfl, by simpa [Value.cells, o2, k2] using hg 2 f2 rfl, by simpa [Value.cells, o3, k3] using hg 3 f3 rfl, by simpa [Value.cells, o4, k4] using hg 4 f4 rfl⟩
end
theorem open_sheet {H : Type} {enc : TypeId × Value → H} {W : World} {base : Nat} {v : Value} {d : DataW H} {p : List MemPlace} (hv : Value.okWide Tryz.prog W .any base 27 v) (h : DataW.Trod enc Tryz.prog W 0 (fun _ => true) true 27 v d p) :
    ∃ q : ShtM, v = shtV q ∧ ShtOk W q := by
  obtain ⟨v0, v1, v2, v3, v4, y0, y1, y2, y3, y4, n, rfl, h0, h1, h2, h3, h4⟩ := open_agg5 Tryz.underlying27 (by kernel_rfl) (by kernel_rfl) hv h
  obtain ⟨s0, hs0, _, hw0⟩ := DataW.trod_string Tryz.underlying9 h0
  obtain rfl : v0 = .string s0 := by simpa using hs0
  obtain ⟨i, hi, _, wi⟩ := DataW.trod_int Tryz.underlying3 h1
  obtain rfl : v1 = .int .i64 i := by simpa using hi
  obtain ⟨A, ca, rows, rfl, hA, hlA, hrs⟩ := tr_rows h2
  obtain ⟨B, cb, bl, rfl, hB, hlB, hbs⟩ := tr_ints h3
  obtain ⟨u, hu, _, wu⟩ := DataW.trod_int Tryz.underlying25 h4
  obtain rfl : v4 = .int .u64 u := by simpa using hu
  obtain ⟨r, rfl⟩ := u64_of_wf wu
  exact ⟨⟨s0, i, A, ca, rows, B, cb, bl, r⟩, rfl, hw0, bounds_i64 wi, hA, hB, hlA, hlB, hrs, hbs⟩
/-- The boxed payslip lies where the call began. -/
structure BoxAt (w : World) (cs : Array Value) (W : World) : Prop where
  b : W.heap[w.heap.size]? = some (.cells cs 27 (0, 0))
  be : Below w.heap.size w W
theorem BoxAt.go {w W W' : World} {cs : Array Value} (h : BoxAt w cs W) (k : Below W.heap.size W W') : BoxAt w cs W' := ⟨(k.block _ (Array.getElem?_eq_some_iff.1 h.b).1).trans h.b, bgo h.be k⟩
theorem BoxAt.app {w W W' : World} {cs : Array Value} {e : TypeId} {size n : Nat} {v : Value} {xs : List Value} (h : BoxAt w cs W) (hown : W.ownsRow w.heap.size e size v n xs) (hT : 27 ≠ e) (hk : Kept W v W') (hB : Below w.heap.size w W') : BoxAt w cs W' :=
  ⟨(hk.2 _ (Array.getElem?_eq_some_iff.1 h.b).1 (own_ne hown h.b hT)).trans h.b, hB⟩
theorem BoxAt.start (w : World) (cs : Array Value) : BoxAt w cs (w.alloc (.cells cs 27)) := ⟨World.alloc_heap_new _ _, bal (Below.refl _ _) _⟩
abbrev Tabs (w : World) : Prop := DTabs w
theorem gGen : Tryz.prog.globalNamed "wageoffice/commitment.generators" = some 0 := by kernel_rfl
theorem gDig : Tryz.prog.globalNamed "wageoffice/digest.digits" = some 1 := by kernel_rfl
theorem tab_heap {W : World} {name : String} {g : Nat} {k : IntKind} {zs : List Int} (hg : Tryz.prog.globalNamed name = some g) (h : Lib.TabIs Tryz.prog W name k zs) : ∃ t fr, W.heap[g]? = some (.cells (zs.map fun z => Value.int k z).toArray t fr) := by
  unfold Lib.TabIs World.var? at h
  rw [hg] at h
  simp only [Option.bind_some] at h
  split at h
  · rename_i cs t fr hq
    refine ⟨t, fr, ?_⟩
    rw [hq]
    simpa using h
  · cases h
theorem tabs_of_vars {W : World} {z1 z2 : List Int} (_ : Lib.TabIs Tryz.prog W "math/bits.deBruijn32tab" .u8 z1) (_ : Lib.TabIs Tryz.prog W "math/bits.deBruijn64tab" .u8 z2)
    (h3 : Lib.TabIs Tryz.prog W "internal/strconv.uint64pow10" .u64 Lib.pow10Tab) (h5 : Lib.TabIs Tryz.prog W "wageoffice/commitment.generators" .i64 [4, 9]) (h4 : Lib.TabIs Tryz.prog W "wageoffice/digest.digits" .u8 [48, 49, 50, 51, 52, 53, 54, 55, 56, 57, 97, 98, 99, 100, 101, 102]) : Tabs W := by
  refine ⟨⟨⟨trivial, h3⟩, tab_heap gGen h5⟩, ?_⟩
  obtain ⟨t, fr, h⟩ := tab_heap gDig h4
  exact ⟨t, fr, by rw [h]; rfl⟩
end Go.Proofs.YtfjkmhbipkoefaaGreatDoor
namespace Go.Proofs.YtfjkmhbipkoefaaGreatDoor
open Go.RowKit Go.Shelf
set_option linter.unusedVariables false
set_option linter.unusedSimpArgs false
set_option maxRecDepth 100000
set_option maxHeartbeats 2000000 in
theorem rname_any (s : ByteArray) (w : World) (hs : s.size ≤ maxLen) : Calls Tryz.prog 54 #[.string s] w fun e w' => e = .returned (.bool (isNameB s)) ∧ w = w' := by
  unfold maxLen at hs
  by_cases h0 : 0 < s.size
  · have h0' : ¬ (s.size : Int) < 1 := by omega
    by_cases h16 : s.size ≤ 16
    · have h16' : ¬ (16 : Int) < (s.size : Int) := by omega
      have h00 : (0 : Int) < (s.size : Int) := by omega
      by_cases hc : 97 ≤ s[0].toNat ∧ s[0].toNat ≤ 122
      · obtain ⟨c0, hc0⟩ : ∃ c, s[0] = c := ⟨_, rfl⟩
        have HC := Lib.hid (And.intro hc0 hc)
        rw [hc0] at hc
        have hc1 : ¬ (c0.toNat : Int) < 97 := by omega
        have hc2 : ¬ 122 < (c0.toNat : Int) := by omega
        clear hc
        go_enter Tryz.func54, Tryz.ntmps54
        go_wp2_with fail
        clear hc0 hc1 hc2
        go_loop [3] (fun i => ∃ k : Nat, k ≤ s.size ∧ i = .int .i64 (k : Int) ∧ ∀ j (h : j < s.size), j < k → okC s[j] = true) (fun i => s.size - (intOf i).toNat)
        case atStart => exact ⟨0, Nat.zero_le _, rfl, fun j h hj => absurd hj (Nat.not_lt_zero j)⟩
        case round =>
          obtain ⟨k, hk, rfl, hok⟩ := hrel
          have Hok := Lib.hid hok
          clear hok
          by_cases hlt : k < s.size
          · have hlt' : (k : Int) < (s.size : Int) := by omega
            cases hcc : okC s[k] with
            | false =>
              have Hno := Lib.hid (name_no hlt hcc)
              obtain ⟨c, hce⟩ : ∃ c, s[k] = c := ⟨_, rfl⟩
              have hcn := of_decide_eq_false hcc
              rw [hce] at hcn
              clear hcc
              have hcase : c.toNat < 48 ∨ (57 < c.toNat ∧ c.toNat < 97 ∧ ¬ c.toNat = 95) ∨ 122 < c.toNat := by omega
              rcases hcase with hq | hq | hq
              · have p1 : ¬ 97 ≤ (c.toNat : Int) := by omega
                have p3 : ¬ 48 ≤ (c.toNat : Int) := by omega
                have p5 : ((c.toNat : Int) == 95) = false := by rw [beq_eq_false_iff_ne]; omega
                clear hcn hq
                go_wp2
                go_ret
                exact ⟨by rw [Hno.out]; rfl, rfl⟩
              · have p1 : ¬ 97 ≤ (c.toNat : Int) := by omega
                have p3 : 48 ≤ (c.toNat : Int) := by omega
                have p4 : ¬ (c.toNat : Int) ≤ 57 := by omega
                have p5 : ((c.toNat : Int) == 95) = false := by rw [beq_eq_false_iff_ne]; omega
                clear hcn hq
                go_wp2
                go_ret
                exact ⟨by rw [Hno.out]; rfl, rfl⟩
              · have p1 : 97 ≤ (c.toNat : Int) := by omega
                have p2 : ¬ (c.toNat : Int) ≤ 122 := by omega
                have p3 : 48 ≤ (c.toNat : Int) := by omega
                have p4 : ¬ (c.toNat : Int) ≤ 57 := by omega
                have p5 : ((c.toNat : Int) == 95) = false := by rw [beq_eq_false_iff_ne]; omega
                clear hcn hq
                go_wp2
                go_ret
                exact ⟨by rw [Hno.out]; rfl, rfl⟩
            | true =>
              have Hy : Hid (∀ j (h : j < s.size), j < k + 1 → okC s[j] = true) := Lib.hid (fun j h hj => by
                by_cases e : j < k
                · exact Hok.out j h e
                · obtain rfl : j = k := by omega
                  exact hcc)
              obtain ⟨c, hce⟩ : ∃ c, s[k] = c := ⟨_, rfl⟩
              have hcn := of_decide_eq_true hcc
              rw [hce] at hcn
              clear hcc
              have hcase : (97 ≤ c.toNat ∧ c.toNat ≤ 122) ∨ (48 ≤ c.toNat ∧ c.toNat ≤ 57) ∨ c.toNat = 95 := by omega
              rcases hcase with hq | hq | hq
              · have p1 : 97 ≤ (c.toNat : Int) := by omega
                have p2 : (c.toNat : Int) ≤ 122 := by omega
                clear hcn hq
                go_wp2
                go_round
                case rel => exact ⟨k + 1, by omega, by go_num, Hy.out⟩
                case measure => simp [intOf]; omega
              · have p1 : ¬ 97 ≤ (c.toNat : Int) := by omega
                have p3 : 48 ≤ (c.toNat : Int) := by omega
                have p4 : (c.toNat : Int) ≤ 57 := by omega
                clear hcn hq
                go_wp2
                go_round
                case rel => exact ⟨k + 1, by omega, by go_num, Hy.out⟩
                case measure => simp [intOf]; omega
              · have p1 : ¬ 97 ≤ (c.toNat : Int) := by omega
                have p3 : 48 ≤ (c.toNat : Int) := by omega
                have p4 : ¬ (c.toNat : Int) ≤ 57 := by omega
                have p5 : ((c.toNat : Int) == 95) = true := by rw [beq_iff_eq]; omega
                clear hcn hq
                go_wp2
                go_round
                case rel => exact ⟨k + 1, by omega, by go_num, Hy.out⟩
                case measure => simp [intOf]; omega
          · have hlt' : ¬ (k : Int) < (s.size : Int) := by omega
            have hyes : isNameB s = true := name_yes h0 h16 (by rw [HC.out.1]; have := HC.out.2; rw [HC.out.1] at this; exact this.1) (by rw [HC.out.1]; have := HC.out.2; rw [HC.out.1] at this; exact this.2) (fun j h => Hok.out j h (by omega))
            have Hyes := Lib.hid hyes
            clear hyes
            go_wp2
            go_ret
            exact ⟨by (rw [Hyes.out]; try rfl), rfl⟩
      · have hno : isNameB s = false := decide_eq_false (fun h => hc ⟨by rw [← name_head s h0]; exact h.2.2.1, by rw [← name_head s h0]; exact h.2.2.2.1⟩)
        have Hno := Lib.hid hno
        clear hno
        obtain ⟨c0, hc0⟩ : ∃ c, s[0] = c := ⟨_, rfl⟩
        rw [hc0] at hc
        by_cases q : c0.toNat < 97
        · have hc1 : (c0.toNat : Int) < 97 := by omega
          clear hc q
          go_enter Tryz.func54, Tryz.ntmps54
          go_wp2
          go_ret
          exact ⟨by (rw [Hno.out]; try rfl), rfl⟩
        · have hc1 : ¬ (c0.toNat : Int) < 97 := by omega
          have hc2 : 122 < (c0.toNat : Int) := by omega
          clear hc q
          go_enter Tryz.func54, Tryz.ntmps54
          go_wp2
          go_ret
          exact ⟨by (rw [Hno.out]; try rfl), rfl⟩
    · have h16' : (16 : Int) < (s.size : Int) := by omega
      have Hno := Lib.hid (show isNameB s = false from decide_eq_false (fun h => h16 h.2.1))
      go_enter Tryz.func54, Tryz.ntmps54
      go_wp2
      go_ret
      exact ⟨by (rw [Hno.out]; try rfl), rfl⟩
  · have h0' : (s.size : Int) < 1 := by omega
    have Hno := Lib.hid (show isNameB s = false from decide_eq_false (fun h => h0 h.1))
    go_enter Tryz.func54, Tryz.ntmps54
    go_wp2
    go_ret
    exact ⟨by (rw [Hno.out]; try rfl), rfl⟩
theorem rname_at (s : ByteArray) (r : Bool) (hr : Hid (isNameB s = r)) (w : World) (hs : s.size ≤ maxLen) : Calls Tryz.prog 54 #[.string s] w fun e w' => e = .returned (.bool r) ∧ w = w' := by
  rw [← hr.out]; exact rname_any s w hs
end Go.Proofs.YtfjkmhbipkoefaaGreatDoor
