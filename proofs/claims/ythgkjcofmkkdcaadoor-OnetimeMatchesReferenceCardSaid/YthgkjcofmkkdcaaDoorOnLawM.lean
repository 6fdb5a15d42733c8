/- Slices of structs of one-cell fields, opened to their cells; an argument that is a list of signatures. The walk of OnetimeMatchesReference. -/
import Derived.Test.YthgkjcofmkkdcaaDoorOnOpen
import Derived.Test.YthgkjcofmkkdcaaDoorOnR4
import Derived.Deep.Slices
import Derived.Deep.Fields
import Derived.ChangeSame
import Derived.Test.YthgkjcofmkkdcaaDoorOnLawA
namespace Go.Proofs.YthgkjcofmkkdcaaDoor
open Go.RowKit Go.ChangeShapes Go.WideShapes Go.Deep Go.Shelf
set_option linter.unusedVariables false
set_option maxRecDepth 100000
section
variable {H : Type} {enc : TypeId × Value → H} {P : Program} {w : World} {base : Nat} {spare : Nat → Bool} {held : Bool}
theorem open_slice_fields {t e : TypeId} {fs : Array Field} {fuel : Nat} {cs : List Value} {x : DataW H × List MemPlace} (ht : P.underlying t = some (.slice e)) (he : P.underlying e = some (.struct fs))
    (hone : oneCellFields P fs = true) (hC : P.cellsOf e = fs.size) (h : DataW.trod enc P w base spare held fuel t cs = some x) :
    (cs = [.slice none 0 0] ∧ x = (.nil, [])) ∨
    ∃ (a : Addr) (len cap m : Nat) (D : Nat → DataW H) (Pl : Nat → List MemPlace), cs = [.slice (some a) len cap] ∧ base ≤ a.block ∧ len ≤ cap ∧ cap ≤ maxLen ∧ m = (if spare a.block then cap else len) ∧
      x = (.slice ((List.range len).map D) ((List.range (m - len)).map fun j => D (len + j)), MemPlace.row a (m * fs.size) ++ (List.range m).flatMap Pl) ∧
      ∀ i, i < m → ∃ (ys : List (DataW H × List MemPlace)) (n : Nat), D i = .agg (ys.map (·.1)) ∧ Pl i = ys.flatMap (·.2) ∧ ys.length = fs.size ∧
        ∀ (j : Nat) (f : Field), fs[j]? = some f → ∃ (v : Value) (y : DataW H × List MemPlace), w.cell? (a.add (i * fs.size + j)) = some v ∧ ys[j]? = some y ∧ DataW.trod enc P w base spare held n f.type [v] = some y := by
  rcases open_slice ht h with h0 | ⟨a, len, cap, m, n, D, Pl, hcs, hb, hl, hm, hmm, hx, hi⟩
  · exact .inl h0
  · refine .inr ⟨a, len, cap, m, D, Pl, hcs, hb, hl, hm, hmm, by rw [hC] at hx; exact hx, fun i him => ?_⟩
    obtain ⟨cs', hc, ht'⟩ := hi i him
    rw [hC] at hc
    obtain ⟨ys, n', hn', hy, hlen, hyl, hf⟩ := DataW.trod_struct he ht'
    obtain ⟨_, hcl, hat⟩ := World.cells?_some hc
    simp only [Prod.mk.injEq] at hy
    refine ⟨ys, n', hy.1, hy.2, hyl, fun j f hj => ?_⟩
    obtain ⟨ho, hk⟩ := hone_of hone j f hj
    have hjl : j < fs.size := (Array.getElem?_eq_some_iff.1 hj).1
    have hcell := hat j hjl
    have hv : cs'[j]? = some (cs'[j]'(by omega)) := List.getElem?_eq_getElem (by omega)
    have h1 := hf j f hj
    rw [ho, hk] at h1
    have hone' : (cs'.drop j).take 1 = [cs'[j]'(by omega)] := by
      rw [List.drop_eq_getElem_cons (by omega)]
      rfl
    rw [hone'] at h1
    have hys : ys[j]? = some (ys[j]'(by omega)) := List.getElem?_eq_getElem (by omega)
    refine ⟨_, _, ?_, hys, h1.trans hys⟩
    rw [← Go.Deep.add_add, hcell, hv]
end
instance : Inhabited Sg := ⟨⟨0, none, 0, 0, none, 0, 0⟩⟩
theorem sl_sigs {H : Type} {enc : TypeId × Value → H} {W : World} {base : Nat} {v : Value} {d : DataW H} {p : List MemPlace} (hv : Value.okWide Tryd.prog W .any base 29 v) (h : DataW.Trod enc Tryd.prog W 0 (fun _ => true) true 29 v d p) :
    ∃ (A : Option Addr) (c : Nat) (l : Sigs), v = .slice A l.length c ∧ Sl W W.heap.size 3 A l.length (sigsV l) ∧ (l.length ≤ c ∧ c ≤ maxLen) ∧ ∀ x ∈ l, (Lit.int .i64 x.i).wf = true := by
  obtain ⟨a0, len, cap0, rfl⟩ := okWide_slice Tryd.underlying29 hv
  obtain ⟨fuel, h⟩ := h
  rcases open_slice_fields Tryd.underlying29 Tryd.underlying27 (by kernel_rfl) (by kernel_rfl) h with ⟨hcs, _⟩ | ⟨a, len', cap, m, D, Pl, hcs, _, hl, hm, hmm, hx, hall⟩
  · simp [Value.cells] at hcs
    obtain ⟨rfl, rfl, rfl⟩ := hcs
    exact ⟨none, 0, [], rfl, Sl.nil _ 3, ⟨Nat.le_refl _, Nat.zero_le _⟩, fun x hx => by cases hx⟩
  · simp [Value.cells] at hcs
    obtain ⟨rfl, rfl, rfl⟩ := hcs
    simp only [if_true] at hmm
    subst hmm
    have each : ∀ i, i < m → ∃ x : Sg, W.cell? (a.add (i * 3 + 0)) = some (.int .i64 x.i) ∧ W.cell? (a.add (i * 3 + 1)) = some (.slice x.A x.n x.ca) ∧ W.cell? (a.add (i * 3 + 2)) = some (.slice x.B x.m x.cb) ∧ (Lit.int .i64 x.i).wf = true := by
      intro i hi
      obtain ⟨ys, n', _, _, _, hf⟩ := hall i hi
      obtain ⟨v0, y0, c0, _, t0⟩ := hf 0 _ rfl
      obtain ⟨v1, y1, c1, _, t1⟩ := hf 1 _ rfl
      obtain ⟨v2, y2, c2, _, t2⟩ := hf 2 _ rfl
      obtain ⟨z, hz, _, hw⟩ := DataW.trod_int Tryd.underlying3 t0
      obtain rfl : v0 = .int .i64 z := by simpa using hz
      obtain ⟨A1, k1, l1, rfl, _⟩ := tr_u64s t1
      obtain ⟨A2, k2, l2, rfl, _⟩ := tr_forks t2
      exact ⟨⟨z, A1, l1.length, k1, A2, l2.length, k2⟩, c0, c1, c2, hw⟩
    obtain ⟨X, hX⟩ := choose_lt each
    have ht : ((List.range len).map X).length = len := by simp
    refine ⟨some a, m, (List.range len).map X, by rw [ht], ?_, ⟨by omega, by omega⟩, ?_⟩
    · refine sl_of_row (by rw [sigsV_len]) (fun _ => by omega) ?_
      intro j u hu
      obtain ⟨hj, e⟩ := List.getElem?_eq_some_iff.1 hu
      rw [sigsV_len, ht] at hj
      have hq : j / 3 < len := by omega
      obtain ⟨c0, c1, c2, _⟩ := hX (j / 3) (by omega)
      have hql : j / 3 < ((List.range len).map X).length := by rw [ht]; exact hq
      obtain ⟨g0, g1, g2⟩ := sigsV_get ((List.range len).map X) (j / 3) hql
      have hj3 : j = j / 3 * 3 + 0 ∨ j = j / 3 * 3 + 1 ∨ j = j / 3 * 3 + 2 := by omega
      rcases hj3 with hjj | hjj | hjj
      · rw [Nat.add_zero] at hjj
        rw [← hjj, hu] at g0
        rw [Nat.add_zero, ← hjj] at c0
        rw [c0, ← Option.some.inj g0.symm]
        simp
      · rw [← hjj, hu] at g1
        rw [← hjj] at c1
        rw [c1, ← Option.some.inj g1.symm]
        simp
      · rw [← hjj, hu] at g2
        rw [← hjj] at c2
        rw [c2, ← Option.some.inj g2.symm]
        simp
    · intro x hx
      obtain ⟨i, hi, rfl⟩ := List.mem_map.1 hx
      exact (hX i (by have := List.mem_range.1 hi; omega)).2.2.2
end Go.Proofs.YthgkjcofmkkdcaaDoor
namespace Go.Proofs.YthgkjcofmkkdcaaDoor
open Go.RowKit Go.Shelf
set_option linter.unusedVariables false
set_option linter.unusedSimpArgs false
set_option maxRecDepth 100000
/-- What both Signs return: index, chains, path, error. -/
def signQ (seed : ByteArray) (h i : Int) (d : UInt64) : Int × List UInt64 × Forks × Int :=
  if signB seed h i = true then (i, On.chains seed.data.toList i d 18, keyP seed (2 ^ h.toNat) i, 0) else (0, [], [], 1)
theorem signQ_len {seed : ByteArray} {h i : Int} {d : UInt64} {si : Int} {c : List UInt64} {p : Forks} {se : Int} (k : signQ seed h i d = (si, c, p, se)) : c.length ≤ 100 ∧ p.length ≤ 100 := by
  unfold signQ at k
  split at k
  · rename_i hb
    obtain ⟨m, n, j, rfl, rfl, hm, hs64, hn, hj, hn2⟩ := signB_out hb
    simp only [Prod.mk.injEq] at k
    obtain ⟨_, rfl, rfl, _⟩ := k
    rw [On.chains_len, Int.toNat_natCast, keyP_len seed m (2 ^ m) j hm rfl (by omega)]
    omega
  · simp only [Prod.mk.injEq] at k
    obtain ⟨_, rfl, rfl, _⟩ := k
    simp
theorem sign_u (seed : ByteArray) (h i : Int) (text : ByteArray) (d : UInt64) (hd : Hid (Dig.sum text.data.toList = d)) (ht : text.size ≤ maxLen) (hs : seed.size ≤ maxLen) (si : Int) (c : List UInt64) (p : Forks) (se : Int) (n m : Nat) (hq : Hid (signQ seed h i d = (si, c, p, se))) (hn : Hid (c.length = n)) (hm : Hid (p.length = m)) (w : World) (hT : OTabs w) :
    Calls Tryd.prog 14 #[.string seed, .int .i64 h, .int .i64 i, .string text] w fun e w' => ∃ A ca B cb, e = .returned (.tuple #[.agg #[.int .i64 si, .slice A n ca, .slice B m cb], .int .i64 se]) ∧ Sl w' w'.heap.size 1 A n (u64V c) ∧ Sl w' w'.heap.size 2 B m (forkV p) ∧ Below w.heap.size w w' := by
  have k := hq.out
  rw [← hn.out, ← hm.out]
  unfold signQ at k
  split at k
  · rename_i hb
    obtain ⟨mm, nn, j, rfl, rfl, hmm, hs64, hnn, hj, hn2⟩ := signB_out hb
    simp only [Prod.mk.injEq] at k
    obtain ⟨rfl, rfl, rfl, rfl⟩ := k
    refine (sign_ok seed mm j nn hmm (Lib.hid hnn) hj hs64 text d hd ht (keyP seed nn (j : Int)) (Lib.hid rfl) w hT).mono ?_
    rintro e w' ⟨A, ca, B, cb, rfl, _, _, h1, h2, h3⟩
    rw [Int.toNat_natCast, hnn, On.chains_len]
    exact ⟨A, ca, B, cb, rfl, h1, h2, h3⟩
  · rename_i hb
    simp only [Prod.mk.injEq] at k
    obtain ⟨rfl, rfl, rfl, rfl⟩ := k
    refine (sign_bad seed h i text (Lib.hid (by simpa using hb)) hs w).mono ?_
    rintro e w' ⟨rfl, h3⟩
    exact ⟨none, 0, none, 0, rfl, Sl.nil _ 1, Sl.nil _ 2, h3⟩
theorem rsign_u (seed : ByteArray) (h i : Int) (text : ByteArray) (d : UInt64) (hd : Hid (Dig.sum text.data.toList = d)) (ht : text.size ≤ maxLen) (hs : seed.size ≤ maxLen) (si : Int) (c : List UInt64) (p : Forks) (se : Int) (n m : Nat) (hq : Hid (signQ seed h i d = (si, c, p, se))) (hn : Hid (c.length = n)) (hm : Hid (p.length = m)) (w : World) (hT : OTabs w) :
    Calls Tryd.prog 15 #[.string seed, .int .i64 h, .int .i64 i, .string text] w fun e w' => ∃ A ca B cb, e = .returned (.tuple #[.agg #[.int .i64 si, .slice A n ca, .slice B m cb], .int .i64 se]) ∧ Sl w' w'.heap.size 1 A n (u64V c) ∧ Sl w' w'.heap.size 2 B m (forkV p) ∧ Below w.heap.size w w' := by
  have k := hq.out
  rw [← hn.out, ← hm.out]
  unfold signQ at k
  split at k
  · rename_i hb
    obtain ⟨mm, nn, j, rfl, rfl, hmm, hs64, hnn, hj, hn2⟩ := signB_out hb
    simp only [Prod.mk.injEq] at k
    obtain ⟨rfl, rfl, rfl, rfl⟩ := k
    refine (rsign_ok seed mm j nn hmm (Lib.hid hnn) hj hs64 text d hd ht (keyP seed nn (j : Int)) (Lib.hid rfl) w hT).mono ?_
    rintro e w' ⟨A, ca, B, cb, rfl, _, _, h1, h2, h3⟩
    rw [Int.toNat_natCast, hnn, On.chains_len]
    exact ⟨A, ca, B, cb, rfl, h1, h2, h3⟩
  · rename_i hb
    simp only [Prod.mk.injEq] at k
    obtain ⟨rfl, rfl, rfl, rfl⟩ := k
    refine (rsign_bad seed h i text (Lib.hid (by simpa using hb)) hs w).mono ?_
    rintro e w' ⟨rfl, h3⟩
    exact ⟨none, 0, none, 0, rfl, Sl.nil _ 1, Sl.nil _ 2, h3⟩
/-- The pair that both Reused return. -/
def ReuAny (is : List Int) (ss : List ByteArray) (n k : Nat) (o : Option (Nat × Nat)) : Prop := (n = k → On.Reu is ss n o) ∧ (n ≠ k → o = none)
theorem ReuAny.uniq {is : List Int} {ss : List ByteArray} {n k : Nat} {o o' : Option (Nat × Nat)} (h : ReuAny is ss n k o) (h' : ReuAny is ss n k o') : o = o' := by
  by_cases e : n = k
  · exact (h.1 e).uniq (h'.1 e)
  · rw [h.2 e, h'.2 e]
theorem reuT_out (o : Option (Nat × Nat)) : ∃ (a b : Int) (c : Bool), reuT o = .tuple #[.int .i64 a, .int .i64 b, .bool c] := by
  match o with
  | none => exact ⟨_, _, _, rfl⟩
  | some (i, j) => exact ⟨_, _, _, rfl⟩
theorem reused_u (A B : Option Addr) (ca cb n k : Nat) (ss : List ByteArray) (sg : Sigs) (hl : ss.length = n) (hl' : sg.length = k) (w : World) (hA : Sl w w.heap.size 1 A n (strV ss)) (hB : Sl w w.heap.size 3 B k (sigsV sg)) (hn : n ≤ 1048576) (hk : k ≤ 1048576) (hwf : ∀ x ∈ sg, (Lit.int .i64 x.i).wf = true) :
    Calls Tryd.prog 16 #[.slice A n ca, .slice B k cb] w fun e w' => ∃ o, e = .returned (reuT o) ∧ ReuAny (idxs sg) ss n k o ∧ Below w.heap.size w w' := by
  by_cases e : n = k
  · subst e
    refine (reused_ok A B ca cb n ss sg hl hl' w hA hB hn hwf).mono ?_
    rintro e w' ⟨o, rfl, h, hb⟩
    exact ⟨o, rfl, ⟨fun _ => h, fun x => absurd rfl x⟩, hb⟩
  · refine (reused_bad A B ca cb n k e hn hk w).mono ?_
    rintro e' w' ⟨rfl, rfl⟩
    exact ⟨none, rfl, ⟨fun x => absurd x e, fun _ => rfl⟩, Below.refl _ _⟩
theorem rreused_u (A B : Option Addr) (ca cb n k : Nat) (ss : List ByteArray) (sg : Sigs) (hl : ss.length = n) (hl' : sg.length = k) (w : World) (hA : Sl w w.heap.size 1 A n (strV ss)) (hB : Sl w w.heap.size 3 B k (sigsV sg)) (hn : n ≤ 1048576) (hk : k ≤ 1048576) (hwf : ∀ x ∈ sg, (Lit.int .i64 x.i).wf = true) :
    Calls Tryd.prog 17 #[.slice A n ca, .slice B k cb] w fun e w' => ∃ o, e = .returned (reuT o) ∧ ReuAny (idxs sg) ss n k o ∧ Below w.heap.size w w' := by
  by_cases e : n = k
  · subst e
    refine (rreused_ok A B ca cb n ss sg hl hl' w hA hB hn).mono ?_
    rintro e w' ⟨o, rfl, h, hb⟩
    exact ⟨o, rfl, ⟨fun _ => h, fun x => absurd rfl x⟩, hb⟩
  · refine (rreused_bad A B ca cb n k e hn hk w).mono ?_
    rintro e' w' ⟨rfl, rfl⟩
    exact ⟨none, rfl, ⟨fun x => absurd x e, fun _ => rfl⟩, Below.refl _ _⟩
theorem light_at (i : Int) (A B : Option Addr) (ca cb n m : Nat) (hn : n ≤ maxLen) (hm : m ≤ maxLen) (r : Bool) (hr : Hid (decide (n ≤ 30 ∧ m ≤ 30) = r)) (w : World) : Calls Tryd.prog 11 #[.agg #[.int .i64 i, .slice A n ca, .slice B m cb]] w fun e w' => e = .returned (.bool r) ∧ Below w.heap.size w w' := by
  rw [← hr.out]
  exact light_any i A B ca cb n m hn hm w
set_option maxHeartbeats 4000000 in
theorem onm_main (seed : ByteArray) (h i : Int) (text : ByteArray) (root : UInt64) (si : Int) (SA : Option Addr) (sn sca : Nat) (sc : List UInt64) (SB : Option Addr) (sm scb : Nat) (sp : Forks) (TA : Option Addr) (tn tca : Nat) (ts : List ByteArray) (GA : Option Addr) (gn gca : Nat) (gs : Sigs) (w : World)
    (hs : seed.size ≤ maxLen) (ht : text.size ≤ maxLen) (hsc : sc.length = sn) (hsp : sp.length = sm) (hsn : sn ≤ maxLen) (hsm : sm ≤ maxLen) (hSA : Sl w w.heap.size 1 SA sn (u64V sc)) (hSB : Sl w w.heap.size 2 SB sm (forkV sp)) (hts : ts.length = tn) (htn : tn ≤ maxLen) (hTA : Sl w w.heap.size 1 TA tn (strV ts)) (hgs : gs.length = gn) (hgn : gn ≤ maxLen) (hGA : Sl w w.heap.size 3 GA gn (sigsV gs)) (hgw : ∀ x ∈ gs, (Lit.int .i64 x.i).wf = true) (hT : OTabs w) :
    Calls Tryd.prog 3 #[.string seed, .int .i64 h, .int .i64 i, .string text, .int .u64 root.toNat, .agg #[.int .i64 si, .slice SA sn sca, .slice SB sm scb], .slice TA tn tca, .slice GA gn gca] w fun e w' => e = .returned (.bool true) ∧ Below w.heap.size w w' := by
  have HS := Lib.hid (And.intro hSA (And.intro hSB (And.intro hTA (And.intro hGA (And.intro hsc (And.intro hsp (And.intro hts (And.intro hgs hgw))))))))
  clear hSA hSB hTA hGA hsc hsp hts hgs hgw
  obtain ⟨u, hu⟩ : ∃ u, usableB seed h [text] = u := ⟨_, rfl⟩
  have Hu := Lib.hid hu
  clear hu
  obtain ⟨lt, hlt⟩ : ∃ lt, decide (sn ≤ 30 ∧ sm ≤ 30) = lt := ⟨_, rfl⟩
  have Hlt := Lib.hid hlt
  clear hlt
  cases u
  · clear Hlt
    go_enter Tryd.func3, Tryd.ntmps3
    go_wp2_with fail
    refine (head_any _ (hT.go (bal (Below.refl _ _) _))).mono ?_
    rintro e w1 ⟨rfl, hB1'⟩
    have hB1 := bgo (bal (Below.refl w.heap.size w) _) hB1'
    have c0 : w1.cell? ⟨w.heap.size, 0, none⟩ = some (.int .i64 si) := (hB1'.cell (p := ⟨w.heap.size, 0, none⟩) (by simp)).trans (by simp [go_sem])
    have c1 : w1.cell? ⟨w.heap.size, 1, none⟩ = some (.slice SA sn sca) := (hB1'.cell (p := ⟨w.heap.size, 1, none⟩) (by simp)).trans (by simp [go_sem])
    have c2 : w1.cell? ⟨w.heap.size, 2, none⟩ = some (.slice SB sm scb) := (hB1'.cell (p := ⟨w.heap.size, 2, none⟩) (by simp)).trans (by simp [go_sem])
    have hsz : w.heap.size < w1.heap.size := by have := hB1'.size; simp at this; omega
    clear hB1'
    go_wp2_with fail
    refine (usable_any seed h _ 1 1 [text] rfl (by decide) false Hu _ (sl_cells (World.alloc_heap_new _ _) rfl rfl)).mono ?_
    rintro e w' ⟨rfl, rfl⟩
    go_wp2_with fail
    go_ret
    exact ⟨rfl, bal hB1 _⟩
  · cases lt
    · skip
      go_enter Tryd.func3, Tryd.ntmps3
      go_wp2_with fail
      refine (head_any _ (hT.go (bal (Below.refl _ _) _))).mono ?_
      rintro e w1 ⟨rfl, hB1'⟩
      have hB1 := bgo (bal (Below.refl w.heap.size w) _) hB1'
      have c0 : w1.cell? ⟨w.heap.size, 0, none⟩ = some (.int .i64 si) := (hB1'.cell (p := ⟨w.heap.size, 0, none⟩) (by simp)).trans (by simp [go_sem])
      have c1 : w1.cell? ⟨w.heap.size, 1, none⟩ = some (.slice SA sn sca) := (hB1'.cell (p := ⟨w.heap.size, 1, none⟩) (by simp)).trans (by simp [go_sem])
      have c2 : w1.cell? ⟨w.heap.size, 2, none⟩ = some (.slice SB sm scb) := (hB1'.cell (p := ⟨w.heap.size, 2, none⟩) (by simp)).trans (by simp [go_sem])
      have hsz : w.heap.size < w1.heap.size := by have := hB1'.size; simp at this; omega
      clear hB1'
      go_wp2_with fail
      refine (usable_any seed h _ 1 1 [text] rfl (by decide) true Hu _ (sl_cells (World.alloc_heap_new _ _) rfl rfl)).mono ?_
      rintro e w' ⟨rfl, rfl⟩
      have hBu := bal hB1 (.cells #[.string text] 9)
      go_wp2_with fail
      refine (light_at si SA SB sca scb sn sm hsn hsm false Hlt _).mono ?_
      rintro e w2 ⟨rfl, hB2'⟩
      have hB2 := bgo hBu hB2'
      have d0 : w2.cell? ⟨w.heap.size, 0, none⟩ = some (.int .i64 si) := (hB2'.cell (p := ⟨w.heap.size, 0, none⟩) (by simp; omega)).trans (((bal (Below.refl w1.heap.size w1) _).cell (p := ⟨w.heap.size, 0, none⟩) hsz).trans c0)
      have d1 : w2.cell? ⟨w.heap.size, 1, none⟩ = some (.slice SA sn sca) := (hB2'.cell (p := ⟨w.heap.size, 1, none⟩) (by simp; omega)).trans (((bal (Below.refl w1.heap.size w1) _).cell (p := ⟨w.heap.size, 1, none⟩) hsz).trans c1)
      have d2 : w2.cell? ⟨w.heap.size, 2, none⟩ = some (.slice SB sm scb) := (hB2'.cell (p := ⟨w.heap.size, 2, none⟩) (by simp; omega)).trans (((bal (Below.refl w1.heap.size w1) _).cell (p := ⟨w.heap.size, 2, none⟩) hsz).trans c2)
      have hsz2 : w.heap.size < w2.heap.size := by have := hB2'.size; simp at this; omega
      clear hB2' hBu c0 c1 c2
      go_wp2_with fail
      go_ret
      exact ⟨rfl, hB2⟩
    · obtain ⟨ut, us, uh⟩ := usable_out Hu.out
      obtain ⟨l1, l2⟩ := of_decide_eq_true Hlt.out
      by_cases ht40 : tn ≤ 40
      · have et : decide ((40 : Int) < (tn : Int)) = false := decide_eq_false (by omega)
        by_cases hg40 : gn ≤ 40
        · have eg : decide ((40 : Int) < (gn : Int)) = false := decide_eq_false (by omega)
          obtain ⟨d, hd⟩ : ∃ d, Dig.sum text.data.toList = d := ⟨_, rfl⟩
          obtain ⟨kd, hkd⟩ : ∃ kd, keyD seed h = kd := ⟨_, rfl⟩
          obtain ⟨ke, hke⟩ : ∃ ke, keyE seed h = ke := ⟨_, rfl⟩
          obtain ⟨⟨qi, qc, qp, qe⟩, hq⟩ : ∃ q, signQ seed h i d = q := ⟨_, rfl⟩
          obtain ⟨qn, hqn⟩ : ∃ n, qc.length = n := ⟨_, rfl⟩
          obtain ⟨qm, hqm⟩ : ∃ n, qp.length = n := ⟨_, rfl⟩
          obtain ⟨v1, hv1⟩ : ∃ v, overB root h d si sc sp = v := ⟨_, rfl⟩
          obtain ⟨v2, hv2⟩ : ∃ v, overB kd h d si sc sp = v := ⟨_, rfl⟩
          have hql := signQ_len hq
          rw [hqn, hqm] at hql
          have Hd := Lib.hid hd
          have Hkd := Lib.hid hkd
          have Hke := Lib.hid hke
          have Hq := Lib.hid hq
          have Hqn := Lib.hid hqn
          have Hqm := Lib.hid hqm
          have Hv1 := Lib.hid hv1
          have Hv2 := Lib.hid hv2
          have Hut := Lib.hid ut
          clear hd hkd hke hq hqn hqm hv1 hv2 ut
          go_enter Tryd.func3, Tryd.ntmps3
          go_wp2_with fail
          refine (head_any _ (hT.go (bal (Below.refl _ _) _))).mono ?_
          rintro e w1 ⟨rfl, hB1'⟩
          have hB1 := bgo (bal (Below.refl w.heap.size w) _) hB1'
          have c0 : w1.cell? ⟨w.heap.size, 0, none⟩ = some (.int .i64 si) := (hB1'.cell (p := ⟨w.heap.size, 0, none⟩) (by simp)).trans (by simp [go_sem])
          have c1 : w1.cell? ⟨w.heap.size, 1, none⟩ = some (.slice SA sn sca) := (hB1'.cell (p := ⟨w.heap.size, 1, none⟩) (by simp)).trans (by simp [go_sem])
          have c2 : w1.cell? ⟨w.heap.size, 2, none⟩ = some (.slice SB sm scb) := (hB1'.cell (p := ⟨w.heap.size, 2, none⟩) (by simp)).trans (by simp [go_sem])
          have hsz : w.heap.size < w1.heap.size := by have := hB1'.size; simp at this; omega
          clear hB1'
          go_wp2_with fail
          refine (usable_any seed h _ 1 1 [text] rfl (by decide) true Hu _ (sl_cells (World.alloc_heap_new _ _) rfl rfl)).mono ?_
          rintro e w' ⟨rfl, rfl⟩
          have hBu := bal hB1 (.cells #[.string text] 9)
          go_wp2_with fail
          refine (light_at si SA SB sca scb sn sm hsn hsm true Hlt _).mono ?_
          rintro e w2 ⟨rfl, hB2'⟩
          have hB2 := bgo hBu hB2'
          have d0 : w2.cell? ⟨w.heap.size, 0, none⟩ = some (.int .i64 si) := (hB2'.cell (p := ⟨w.heap.size, 0, none⟩) (by simp; omega)).trans (((bal (Below.refl w1.heap.size w1) _).cell (p := ⟨w.heap.size, 0, none⟩) hsz).trans c0)
          have d1 : w2.cell? ⟨w.heap.size, 1, none⟩ = some (.slice SA sn sca) := (hB2'.cell (p := ⟨w.heap.size, 1, none⟩) (by simp; omega)).trans (((bal (Below.refl w1.heap.size w1) _).cell (p := ⟨w.heap.size, 1, none⟩) hsz).trans c1)
          have d2 : w2.cell? ⟨w.heap.size, 2, none⟩ = some (.slice SB sm scb) := (hB2'.cell (p := ⟨w.heap.size, 2, none⟩) (by simp; omega)).trans (((bal (Below.refl w1.heap.size w1) _).cell (p := ⟨w.heap.size, 2, none⟩) hsz).trans c2)
          have hsz2 : w.heap.size < w2.heap.size := by have := hB2'.size; simp at this; omega
          clear hB2' hBu c0 c1 c2
          go_wp2_with fail
          obtain ⟨hB2c, hs2c⟩ := And.intro hB2 hsz2
          have D := Lib.hid (And.intro d0 (And.intro d1 d2))
          have hQ := Below.refl w2.heap.size w2
          clear d0 d1 d2
          refine (key_any seed h kd ke Hkd Hke w2 hs (hT.go hB2)).mono ?_
          rintro e w3 ⟨rfl, hBn⟩
          have hB3 := bgo hB2 hBn
          have hQ3 := bgo hQ hBn
          clear hBn
          clear hQ
          go_wp2_with fail
          refine (rkey_any seed h kd ke Hkd Hke w3 hs (hT.go hB3)).mono ?_
          rintro e w4 ⟨rfl, hBn⟩
          have hB4 := bgo hB3 hBn
          have hQ4 := bgo hQ3 hBn
          clear hBn
          clear hB3 hQ3
          go_wp2_with fail
          refine (sign_u seed h i text d Hd ht hs qi qc qp qe qn qm Hq Hqn Hqm w4 (hT.go hB4)).mono ?_
          rintro e w5 ⟨XA, xca, XB, xcb, rfl, hXA, hXB, hBn⟩
          have hB5 := bgo hB4 hBn
          have hQ5 := bgo hQ4 hBn
          clear hBn
          have HX := Lib.hid (And.intro hXA hXB)
          clear hXA hXB
          have hx5 := w5.heap.size
          clear hB4 hQ4
          go_wp2_with fail
          have hBa := bal hB5 (.cells #[.int .i64 qi, .slice XA qn xca, .slice XB qm xcb] 27)
          have hQa := bal hQ5 (.cells #[.int .i64 qi, .slice XA qn xca, .slice XB qm xcb] 27)
          refine (rsign_u seed h i text d Hd ht hs qi qc qp qe qn qm Hq Hqn Hqm _ (hT.go hBa)).mono ?_
          rintro e w6 ⟨YA, yca, YB, ycb, rfl, hYA, hYB, hBn⟩
          have hB6 := bgo hBa hBn
          have hQ6 := bgo hQa hBn
          have X := Lib.hid (And.intro ((HX.out.1.al (.cells #[.int .i64 qi, .slice XA qn xca, .slice XB qm xcb] 27)).go hBn) (And.intro ((HX.out.2.al (.cells #[.int .i64 qi, .slice XA qn xca, .slice XB qm xcb] 27)).go hBn) (And.intro hYA (And.intro hYB
            (And.intro (show w6.cell? ⟨w5.heap.size, 0, none⟩ = some (.int .i64 qi) from (hBn.cell (p := ⟨w5.heap.size, 0, none⟩) (by simp)).trans (by simp [go_sem]))
            (And.intro (show w6.cell? ⟨w5.heap.size, 1, none⟩ = some (.slice XA qn xca) from (hBn.cell (p := ⟨w5.heap.size, 1, none⟩) (by simp)).trans (by simp [go_sem]))
            (show w6.cell? ⟨w5.heap.size, 2, none⟩ = some (.slice XB qm xcb) from (hBn.cell (p := ⟨w5.heap.size, 2, none⟩) (by simp)).trans (by simp [go_sem]))))))))
          have hs56 : w5.heap.size < w6.heap.size := by have := hBn.size; simp at this; omega
          clear hYA hYB HX hBn hBa hQa hB5 hQ5
          go_wp2_with fail
          have hBb := bal hB6 (.cells #[.int .i64 qi, .slice YA qn yca, .slice YB qm ycb] 27)
          have hQb := bal hQ6 (.cells #[.int .i64 qi, .slice YA qn yca, .slice YB qm ycb] 27)
          refine (reused_u TA GA tca gca tn gn ts gs HS.out.2.2.2.2.2.2.1 HS.out.2.2.2.2.2.2.2.1 _ (HS.out.2.2.1.go hBb) (HS.out.2.2.2.1.go hBb) (by omega) (by omega) HS.out.2.2.2.2.2.2.2.2).mono ?_
          rintro e w7 ⟨o, rfl, ho, hBn⟩
          obtain ⟨r1, r2, r3, hr⟩ := reuT_out o
          rw [hr]
          have hB7 := bgo hBb hBn
          have hQ7 := bgo hQb hBn
          have Y := Lib.hid (And.intro (show w7.cell? ⟨w6.heap.size, 0, none⟩ = some (.int .i64 qi) from (hBn.cell (p := ⟨w6.heap.size, 0, none⟩) (by simp)).trans (by simp [go_sem]))
            (And.intro (show w7.cell? ⟨w6.heap.size, 1, none⟩ = some (.slice YA qn yca) from (hBn.cell (p := ⟨w6.heap.size, 1, none⟩) (by simp)).trans (by simp [go_sem]))
            (show w7.cell? ⟨w6.heap.size, 2, none⟩ = some (.slice YB qm ycb) from (hBn.cell (p := ⟨w6.heap.size, 2, none⟩) (by simp)).trans (by simp [go_sem]))))
          have h67 := bgo (bal (Below.refl w6.heap.size w6) (.cells #[.int .i64 qi, .slice YA qn yca, .slice YB qm ycb] 27)) hBn
          have hs67 : w6.heap.size < w7.heap.size := by have := hBn.size; simp at this; omega
          have Ho := Lib.hid (And.intro ho hr)
          clear ho hr hBn hBb hQb hB6 hQ6
          go_wp2_with fail
          refine (rreused_u TA GA tca gca tn gn ts gs HS.out.2.2.2.2.2.2.1 HS.out.2.2.2.2.2.2.2.1 w7 (HS.out.2.2.1.go hB7) (HS.out.2.2.2.1.go hB7) (by omega) (by omega) HS.out.2.2.2.2.2.2.2.2).mono ?_
          rintro e w8 ⟨o', rfl, ho', hBn⟩
          obtain rfl : o' = o := ho'.uniq Ho.out.1
          rw [Ho.out.2]
          have hB8 := bgo hB7 hBn
          have hQ8 := bgo hQ7 hBn
          have h68 := bgo h67 hBn
          obtain ⟨x0, x1, x2⟩ := X.out.2.2.2.2
          obtain ⟨y0, y1, y2⟩ := Y.out
          have e0 : w8.cell? ⟨w5.heap.size, 0, none⟩ = some (.int .i64 qi) := (h68.cell (p := ⟨w5.heap.size, 0, none⟩) hs56).trans x0
          have e1 : w8.cell? ⟨w5.heap.size, 1, none⟩ = some (.slice XA qn xca) := (h68.cell (p := ⟨w5.heap.size, 1, none⟩) hs56).trans x1
          have e2 : w8.cell? ⟨w5.heap.size, 2, none⟩ = some (.slice XB qm xcb) := (h68.cell (p := ⟨w5.heap.size, 2, none⟩) hs56).trans x2
          have f0 : w8.cell? ⟨w6.heap.size, 0, none⟩ = some (.int .i64 qi) := (hBn.cell (p := ⟨w6.heap.size, 0, none⟩) hs67).trans y0
          have f1 : w8.cell? ⟨w6.heap.size, 1, none⟩ = some (.slice YA qn yca) := (hBn.cell (p := ⟨w6.heap.size, 1, none⟩) hs67).trans y1
          have f2 : w8.cell? ⟨w6.heap.size, 2, none⟩ = some (.slice YB qm ycb) := (hBn.cell (p := ⟨w6.heap.size, 2, none⟩) hs67).trans y2
          clear x0 x1 x2 y0 y1 y2 ho' hB7 hQ7 h67 hBn
          go_wp2_with fail
          refine (rsame_any qi XA XB YA YB xca xcb yca ycb qn qm qc qp Hqn.out Hqm.out hql.1 hql.2 w8 (X.out.1.go h68) (X.out.2.1.go h68) (X.out.2.2.1.go h68) (X.out.2.2.2.1.go h68)).mono ?_
          rintro e w9 ⟨rfl, hBn⟩
          have hB9 := bgo hB8 hBn
          have hQ9 := bgo hQ8 hBn
          obtain ⟨d0, d1, d2⟩ := D.out
          have g0 : w9.cell? ⟨w.heap.size, 0, none⟩ = some (.int .i64 si) := (hQ9.cell (p := ⟨w.heap.size, 0, none⟩) hsz2).trans d0
          have g1 : w9.cell? ⟨w.heap.size, 1, none⟩ = some (.slice SA sn sca) := (hQ9.cell (p := ⟨w.heap.size, 1, none⟩) hsz2).trans d1
          have g2 : w9.cell? ⟨w.heap.size, 2, none⟩ = some (.slice SB sm scb) := (hQ9.cell (p := ⟨w.heap.size, 2, none⟩) hsz2).trans d2
          clear d0 d1 d2 e0 e1 e2 f0 f1 f2 hBn hB8 hQ8 h68 X Y Ho
          go_upto_region 12 with fail
          refine wp_region_noPanic ?_
          have hBd := hB9.drew
          have hQd := hQ9.drew
          clear hB9 hQ9
          refine wp_region_held_drew (S := fun w' => w'.cell? ⟨w.heap.size, 0, none⟩ = some (.int .i64 si) ∧ w'.cell? ⟨w.heap.size, 1, none⟩ = some (.slice SA sn sca) ∧ w'.cell? ⟨w.heap.size, 2, none⟩ = some (.slice SB sm scb)) (by kernel_rfl) ⟨g0, g1, g2⟩ (fun hHeld => ?_)
          refine wpAnyH_take (i := 0) (v := ?_) rfl (by kernel_rfl) (by kernel_rfl) (by kernel_rfl) (fun _ _ _ h => h) (Or.inl ⟨by kernel_rfl, ?_⟩) (by assumption) ?_
          rotate_left
          · intro w hSw
            (try dsimp only at hSw)
            go_simp
            first | done | with_reducible rfl
          simp only [List.getElem_toArray, List.getElem_cons_zero, List.getElem_cons_succ, Act.put, List.setIfInBounds_toArray, List.set_cons_zero, List.set_cons_succ]
          refine wpAnyH_take (i := 1) (v := ?_) rfl (by kernel_rfl) (by kernel_rfl) (by kernel_rfl) (fun _ _ _ h => h) (Or.inl ⟨by kernel_rfl, ?_⟩) (by assumption) ?_
          rotate_left
          · intro w hSw
            (try dsimp only at hSw)
            go_simp
            first | done | with_reducible rfl
          simp only [List.getElem_toArray, List.getElem_cons_zero, List.getElem_cons_succ, Act.put, List.setIfInBounds_toArray, List.set_cons_zero, List.set_cons_succ]
          refine wpAnyH_take (i := 2) (v := ?_) rfl (by kernel_rfl) (by kernel_rfl) (by kernel_rfl) (fun _ _ _ h => h) (Or.inl ⟨by kernel_rfl, ?_⟩) (by assumption) ?_
          rotate_left
          · intro w hSw
            (try dsimp only at hSw)
            go_simp
            first | done | with_reducible rfl
          simp only [List.getElem_toArray, List.getElem_cons_zero, List.getElem_cons_succ, Act.put, List.setIfInBounds_toArray, List.set_cons_zero, List.set_cons_succ]
          refine wpAnyH_take (i := 3) (v := ?_) rfl (by kernel_rfl) (by kernel_rfl) (by kernel_rfl) (fun _ _ _ h => h) (Or.inl ⟨by kernel_rfl, ?_⟩) (by assumption) ?_
          rotate_left
          · intro w hSw
            (try dsimp only at hSw)
            go_simp
            first | done | with_reducible rfl
          simp only [List.getElem_toArray, List.getElem_cons_zero, List.getElem_cons_succ, Act.put, List.setIfInBounds_toArray, List.set_cons_zero, List.set_cons_succ]
          refine wpAnyH_take (i := 4) (v := ?_) rfl (by kernel_rfl) (by kernel_rfl) (by kernel_rfl) (fun _ _ _ h => h) (Or.inl ⟨by kernel_rfl, ?_⟩) (by assumption) ?_
          rotate_left
          · intro w hSw
            (try dsimp only at hSw)
            go_simp
            first | done | with_reducible rfl
          simp only [List.getElem_toArray, List.getElem_cons_zero, List.getElem_cons_succ, Act.put, List.setIfInBounds_toArray, List.set_cons_zero, List.set_cons_succ]
          refine wpAnyH_take (i := 5) (v := ?_) rfl (by kernel_rfl) (by kernel_rfl) (by kernel_rfl) (fun _ _ _ h => h) (Or.inl ⟨by kernel_rfl, ?_⟩) (by assumption) ?_
          rotate_left
          · intro w hSw
            (try dsimp only at hSw)
            go_simp
            first | done | with_reducible rfl
          simp only [List.getElem_toArray, List.getElem_cons_zero, List.getElem_cons_succ, Act.put, List.setIfInBounds_toArray, List.set_cons_zero, List.set_cons_succ]
          refine wpAnyH_take (i := 7) (v := ?_) rfl (by kernel_rfl) (by kernel_rfl) (by kernel_rfl) (fun _ _ _ h => h) (Or.inl ⟨by kernel_rfl, ?_⟩) (by assumption) ?_
          rotate_left
          · intro w hSw
            (try dsimp only at hSw)
            go_simp
            first | done | with_reducible rfl
          simp only [List.getElem_toArray, List.getElem_cons_zero, List.getElem_cons_succ, Act.put, List.setIfInBounds_toArray, List.set_cons_zero, List.set_cons_succ]
          refine wpAnyH_take (i := 8) (v := ?_) rfl (by kernel_rfl) (by kernel_rfl) (by kernel_rfl) (fun _ _ _ h => h) (Or.inl ⟨by kernel_rfl, ?_⟩) (by assumption) ?_
          rotate_left
          · intro w hSw
            (try dsimp only at hSw)
            go_simp
            first | done | with_reducible rfl
          simp only [List.getElem_toArray, List.getElem_cons_zero, List.getElem_cons_succ, Act.put, List.setIfInBounds_toArray, List.set_cons_zero, List.set_cons_succ]
          refine wpAnyH_take (i := 9) (v := ?_) rfl (by kernel_rfl) (by kernel_rfl) (by kernel_rfl) (fun _ _ _ h => h) (Or.inl ⟨by kernel_rfl, ?_⟩) (by assumption) ?_
          rotate_left
          · intro w hSw
            (try dsimp only at hSw)
            go_simp
            first | done | with_reducible rfl
          simp only [List.getElem_toArray, List.getElem_cons_zero, List.getElem_cons_succ, Act.put, List.setIfInBounds_toArray, List.set_cons_zero, List.set_cons_succ]
          refine wpAnyH_take (i := 10) (v := ?_) rfl (by kernel_rfl) (by kernel_rfl) (by kernel_rfl) (fun _ _ _ h => h) (Or.inl ⟨by kernel_rfl, ?_⟩) (by assumption) ?_
          rotate_left
          · intro w hSw
            (try dsimp only at hSw)
            go_simp
            first | done | with_reducible rfl
          simp only [List.getElem_toArray, List.getElem_cons_zero, List.getElem_cons_succ, Act.put, List.setIfInBounds_toArray, List.set_cons_zero, List.set_cons_succ]
          refine wpAnyH_ready (rs := [6]) (by kernel_rfl) (by simp) ?_
          refine AllReadyH.cons rfl (fun K hK => ?_) AllReadyH.nil
          simp only [List.getElem_toArray, List.getElem_cons_zero, List.getElem_cons_succ]
          go_simp
          (with_reducible refine (over_at root h text d Hd ht si SA SB sca scb sn sm sc sp HS.out.2.2.2.2.1 HS.out.2.2.2.2.2.1 hsn v1 Hv1 w9.drew (hT.go hBd) (HS.out.1.go hBd) (HS.out.2.1.go hBd)).mono ?_)
          rintro e w10 ⟨rfl, hBn⟩
          dsimp only
          have hB10 := bgo hBd hBn
          have hQ10 := bgo hQd hBn
          refine hK.out _ _ ⟨(hQ10.cell (p := ⟨w.heap.size, 0, none⟩) hsz2).trans D.out.1, (hQ10.cell (p := ⟨w.heap.size, 1, none⟩) hsz2).trans D.out.2.1, (hQ10.cell (p := ⟨w.heap.size, 2, none⟩) hsz2).trans D.out.2.2⟩ (fun hHeld => ?_)
          clear hK K
          try simp only [List.getElem_toArray, List.getElem_cons_zero, List.getElem_cons_succ, Act.put, List.setIfInBounds_toArray, List.set_cons_zero, List.set_cons_succ]
          refine wpAnyH_ready (rs := [11]) (by kernel_rfl) (by simp) ?_
          refine AllReadyH.cons rfl (fun K hK => ?_) AllReadyH.nil
          simp only [List.getElem_toArray, List.getElem_cons_zero, List.getElem_cons_succ]
          go_simp
          (with_reducible refine (rover_at root h text d Hd ht si SA SB sca scb sn sm sc sp HS.out.2.2.2.2.1 HS.out.2.2.2.2.2.1 hsn l2 v1 Hv1 w10 (HS.out.1.go hB10) (HS.out.2.1.go hB10)).mono ?_)
          rintro e w11 ⟨rfl, hBn⟩
          dsimp only
          have hB11 := bgo hB10 hBn
          have hQ11 := bgo hQ10 hBn
          refine hK.out _ _ ⟨(hQ11.cell (p := ⟨w.heap.size, 0, none⟩) hsz2).trans D.out.1, (hQ11.cell (p := ⟨w.heap.size, 1, none⟩) hsz2).trans D.out.2.1, (hQ11.cell (p := ⟨w.heap.size, 2, none⟩) hsz2).trans D.out.2.2⟩ (fun hHeld => ?_)
          clear hK K
          try simp only [List.getElem_toArray, List.getElem_cons_zero, List.getElem_cons_succ, Act.put, List.setIfInBounds_toArray, List.set_cons_zero, List.set_cons_succ]
          refine wpAnyH_take (i := 12) (v := .bool true) rfl (by kernel_rfl) (by kernel_rfl) (by kernel_rfl) (fun _ _ _ h => h) (Or.inl ⟨by kernel_rfl, ?_⟩) (by assumption) ?_
          · intro w hSw
            (try dsimp only at hSw)
            first | (go_simp; done) | (go_simp; simp)
          simp only [List.getElem_toArray, List.getElem_cons_zero, List.getElem_cons_succ, Act.put, List.setIfInBounds_toArray, List.set_cons_zero, List.set_cons_succ]
          refine wpAnyH_take (i := 13) (v := ?_) rfl (by kernel_rfl) (by kernel_rfl) (by kernel_rfl) (fun _ _ _ h => h) (Or.inl ⟨by kernel_rfl, ?_⟩) (by assumption) ?_
          rotate_left
          · intro w hSw
            (try dsimp only at hSw)
            go_simp
            first | done | with_reducible rfl
          simp only [List.getElem_toArray, List.getElem_cons_zero, List.getElem_cons_succ, Act.put, List.setIfInBounds_toArray, List.set_cons_zero, List.set_cons_succ]
          refine wpAnyH_take (i := 14) (v := ?_) rfl (by kernel_rfl) (by kernel_rfl) (by kernel_rfl) (fun _ _ _ h => h) (Or.inl ⟨by kernel_rfl, ?_⟩) (by assumption) ?_
          rotate_left
          · intro w hSw
            (try dsimp only at hSw)
            go_simp
            first | done | with_reducible rfl
          simp only [List.getElem_toArray, List.getElem_cons_zero, List.getElem_cons_succ, Act.put, List.setIfInBounds_toArray, List.set_cons_zero, List.set_cons_succ]
          refine wpAnyH_take (i := 15) (v := ?_) rfl (by kernel_rfl) (by kernel_rfl) (by kernel_rfl) (fun _ _ _ h => h) (Or.inl ⟨by kernel_rfl, ?_⟩) (by assumption) ?_
          rotate_left
          · intro w hSw
            (try dsimp only at hSw)
            go_simp
            first | done | with_reducible rfl
          simp only [List.getElem_toArray, List.getElem_cons_zero, List.getElem_cons_succ, Act.put, List.setIfInBounds_toArray, List.set_cons_zero, List.set_cons_succ]
          refine wpAnyH_take (i := 16) (v := ?_) rfl (by kernel_rfl) (by kernel_rfl) (by kernel_rfl) (fun _ _ _ h => h) (Or.inl ⟨by kernel_rfl, ?_⟩) (by assumption) ?_
          rotate_left
          · intro w hSw
            (try dsimp only at hSw)
            go_simp
            first | done | with_reducible rfl
          simp only [List.getElem_toArray, List.getElem_cons_zero, List.getElem_cons_succ, Act.put, List.setIfInBounds_toArray, List.set_cons_zero, List.set_cons_succ]
          refine wpAnyH_take (i := 17) (v := ?_) rfl (by kernel_rfl) (by kernel_rfl) (by kernel_rfl) (fun _ _ _ h => h) (Or.inl ⟨by kernel_rfl, ?_⟩) (by assumption) ?_
          rotate_left
          · intro w hSw
            (try dsimp only at hSw)
            go_simp
            first | done | with_reducible rfl
          simp only [List.getElem_toArray, List.getElem_cons_zero, List.getElem_cons_succ, Act.put, List.setIfInBounds_toArray, List.set_cons_zero, List.set_cons_succ]
          refine wpAnyH_take (i := 18) (v := ?_) rfl (by kernel_rfl) (by kernel_rfl) (by kernel_rfl) (fun _ _ _ h => h) (Or.inl ⟨by kernel_rfl, ?_⟩) (by assumption) ?_
          rotate_left
          · intro w hSw
            (try dsimp only at hSw)
            go_simp
            first | done | with_reducible rfl
          simp only [List.getElem_toArray, List.getElem_cons_zero, List.getElem_cons_succ, Act.put, List.setIfInBounds_toArray, List.set_cons_zero, List.set_cons_succ]
          refine wpAnyH_take (i := 20) (v := ?_) rfl (by kernel_rfl) (by kernel_rfl) (by kernel_rfl) (fun _ _ _ h => h) (Or.inl ⟨by kernel_rfl, ?_⟩) (by assumption) ?_
          rotate_left
          · intro w hSw
            (try dsimp only at hSw)
            go_simp
            first | done | with_reducible rfl
          simp only [List.getElem_toArray, List.getElem_cons_zero, List.getElem_cons_succ, Act.put, List.setIfInBounds_toArray, List.set_cons_zero, List.set_cons_succ]
          refine wpAnyH_take (i := 21) (v := ?_) rfl (by kernel_rfl) (by kernel_rfl) (by kernel_rfl) (fun _ _ _ h => h) (Or.inl ⟨by kernel_rfl, ?_⟩) (by assumption) ?_
          rotate_left
          · intro w hSw
            (try dsimp only at hSw)
            go_simp
            first | done | with_reducible rfl
          simp only [List.getElem_toArray, List.getElem_cons_zero, List.getElem_cons_succ, Act.put, List.setIfInBounds_toArray, List.set_cons_zero, List.set_cons_succ]
          refine wpAnyH_take (i := 22) (v := ?_) rfl (by kernel_rfl) (by kernel_rfl) (by kernel_rfl) (fun _ _ _ h => h) (Or.inl ⟨by kernel_rfl, ?_⟩) (by assumption) ?_
          rotate_left
          · intro w hSw
            (try dsimp only at hSw)
            go_simp
            first | done | with_reducible rfl
          simp only [List.getElem_toArray, List.getElem_cons_zero, List.getElem_cons_succ, Act.put, List.setIfInBounds_toArray, List.set_cons_zero, List.set_cons_succ]
          refine wpAnyH_take (i := 23) (v := ?_) rfl (by kernel_rfl) (by kernel_rfl) (by kernel_rfl) (fun _ _ _ h => h) (Or.inl ⟨by kernel_rfl, ?_⟩) (by assumption) ?_
          rotate_left
          · intro w hSw
            (try dsimp only at hSw)
            go_simp
            first | done | with_reducible rfl
          simp only [List.getElem_toArray, List.getElem_cons_zero, List.getElem_cons_succ, Act.put, List.setIfInBounds_toArray, List.set_cons_zero, List.set_cons_succ]
          refine wpAnyH_ready (rs := [19]) (by kernel_rfl) (by simp) ?_
          refine AllReadyH.cons rfl (fun K hK => ?_) AllReadyH.nil
          simp only [List.getElem_toArray, List.getElem_cons_zero, List.getElem_cons_succ]
          go_simp
          (with_reducible refine (over_at kd h text d Hd ht si SA SB sca scb sn sm sc sp HS.out.2.2.2.2.1 HS.out.2.2.2.2.2.1 hsn v2 Hv2 w11 (hT.go hB11) (HS.out.1.go hB11) (HS.out.2.1.go hB11)).mono ?_)
          rintro e w12 ⟨rfl, hBn⟩
          dsimp only
          have hB12 := bgo hB11 hBn
          have hQ12 := bgo hQ11 hBn
          refine hK.out _ _ ⟨(hQ12.cell (p := ⟨w.heap.size, 0, none⟩) hsz2).trans D.out.1, (hQ12.cell (p := ⟨w.heap.size, 1, none⟩) hsz2).trans D.out.2.1, (hQ12.cell (p := ⟨w.heap.size, 2, none⟩) hsz2).trans D.out.2.2⟩ (fun hHeld => ?_)
          clear hK K
          try simp only [List.getElem_toArray, List.getElem_cons_zero, List.getElem_cons_succ, Act.put, List.setIfInBounds_toArray, List.set_cons_zero, List.set_cons_succ]
          refine wpAnyH_ready (rs := [24]) (by kernel_rfl) (by simp) ?_
          refine AllReadyH.cons rfl (fun K hK => ?_) AllReadyH.nil
          simp only [List.getElem_toArray, List.getElem_cons_zero, List.getElem_cons_succ]
          go_simp
          (with_reducible refine (rover_at kd h text d Hd ht si SA SB sca scb sn sm sc sp HS.out.2.2.2.2.1 HS.out.2.2.2.2.2.1 hsn l2 v2 Hv2 w12 (HS.out.1.go hB12) (HS.out.2.1.go hB12)).mono ?_)
          rintro e w13 ⟨rfl, hBn⟩
          dsimp only
          have hB13 := bgo hB12 hBn
          have hQ13 := bgo hQ12 hBn
          refine hK.out _ _ ⟨(hQ13.cell (p := ⟨w.heap.size, 0, none⟩) hsz2).trans D.out.1, (hQ13.cell (p := ⟨w.heap.size, 1, none⟩) hsz2).trans D.out.2.1, (hQ13.cell (p := ⟨w.heap.size, 2, none⟩) hsz2).trans D.out.2.2⟩ (fun hHeld => ?_)
          clear hK K
          try simp only [List.getElem_toArray, List.getElem_cons_zero, List.getElem_cons_succ, Act.put, List.setIfInBounds_toArray, List.set_cons_zero, List.set_cons_succ]
          refine wpAnyH_take (i := 25) (v := .bool true) rfl (by kernel_rfl) (by kernel_rfl) (by kernel_rfl) (fun _ _ _ h => h) (Or.inl ⟨by kernel_rfl, ?_⟩) (by assumption) ?_
          · intro w hSw
            (try dsimp only at hSw)
            first | (go_simp; done) | (go_simp; simp)
          simp only [List.getElem_toArray, List.getElem_cons_zero, List.getElem_cons_succ, Act.put, List.setIfInBounds_toArray, List.set_cons_zero, List.set_cons_succ]
          refine wpAnyH_take (i := 26) (v := ?_) rfl (by kernel_rfl) (by kernel_rfl) (by kernel_rfl) (fun _ _ _ h => h) (Or.inl ⟨by kernel_rfl, ?_⟩) (by assumption) ?_
          rotate_left
          · intro w hSw
            (try dsimp only at hSw)
            go_simp
            first | done | with_reducible rfl
          simp only [List.getElem_toArray, List.getElem_cons_zero, List.getElem_cons_succ, Act.put, List.setIfInBounds_toArray, List.set_cons_zero, List.set_cons_succ]
          refine wpAnyH_take (i := 27) (v := ?_) rfl (by kernel_rfl) (by kernel_rfl) (by kernel_rfl) (fun _ _ _ h => h) (Or.inl ⟨by kernel_rfl, ?_⟩) (by assumption) ?_
          rotate_left
          · intro w hSw
            (try dsimp only at hSw)
            go_simp
            first | done | with_reducible rfl
          simp only [List.getElem_toArray, List.getElem_cons_zero, List.getElem_cons_succ, Act.put, List.setIfInBounds_toArray, List.set_cons_zero, List.set_cons_succ]
          refine wpAnyH_done (by kernel_rfl) ?_ _
          dsimp only [NoPanic]
          clear hHeld
          go_wp2_with fail
          go_ret
          exact ⟨rfl, hB13⟩
        · have eg : decide ((40 : Int) < (gn : Int)) = true := decide_eq_true (by omega)
          go_enter Tryd.func3, Tryd.ntmps3
          go_wp2_with fail
          refine (head_any _ (hT.go (bal (Below.refl _ _) _))).mono ?_
          rintro e w1 ⟨rfl, hB1'⟩
          have hB1 := bgo (bal (Below.refl w.heap.size w) _) hB1'
          have c0 : w1.cell? ⟨w.heap.size, 0, none⟩ = some (.int .i64 si) := (hB1'.cell (p := ⟨w.heap.size, 0, none⟩) (by simp)).trans (by simp [go_sem])
          have c1 : w1.cell? ⟨w.heap.size, 1, none⟩ = some (.slice SA sn sca) := (hB1'.cell (p := ⟨w.heap.size, 1, none⟩) (by simp)).trans (by simp [go_sem])
          have c2 : w1.cell? ⟨w.heap.size, 2, none⟩ = some (.slice SB sm scb) := (hB1'.cell (p := ⟨w.heap.size, 2, none⟩) (by simp)).trans (by simp [go_sem])
          have hsz : w.heap.size < w1.heap.size := by have := hB1'.size; simp at this; omega
          clear hB1'
          go_wp2_with fail
          refine (usable_any seed h _ 1 1 [text] rfl (by decide) true Hu _ (sl_cells (World.alloc_heap_new _ _) rfl rfl)).mono ?_
          rintro e w' ⟨rfl, rfl⟩
          have hBu := bal hB1 (.cells #[.string text] 9)
          go_wp2_with fail
          refine (light_at si SA SB sca scb sn sm hsn hsm true Hlt _).mono ?_
          rintro e w2 ⟨rfl, hB2'⟩
          have hB2 := bgo hBu hB2'
          have d0 : w2.cell? ⟨w.heap.size, 0, none⟩ = some (.int .i64 si) := (hB2'.cell (p := ⟨w.heap.size, 0, none⟩) (by simp; omega)).trans (((bal (Below.refl w1.heap.size w1) _).cell (p := ⟨w.heap.size, 0, none⟩) hsz).trans c0)
          have d1 : w2.cell? ⟨w.heap.size, 1, none⟩ = some (.slice SA sn sca) := (hB2'.cell (p := ⟨w.heap.size, 1, none⟩) (by simp; omega)).trans (((bal (Below.refl w1.heap.size w1) _).cell (p := ⟨w.heap.size, 1, none⟩) hsz).trans c1)
          have d2 : w2.cell? ⟨w.heap.size, 2, none⟩ = some (.slice SB sm scb) := (hB2'.cell (p := ⟨w.heap.size, 2, none⟩) (by simp; omega)).trans (((bal (Below.refl w1.heap.size w1) _).cell (p := ⟨w.heap.size, 2, none⟩) hsz).trans c2)
          have hsz2 : w.heap.size < w2.heap.size := by have := hB2'.size; simp at this; omega
          clear hB2' hBu c0 c1 c2
          go_wp2_with fail
          go_ret
          exact ⟨rfl, hB2⟩
      · have et : decide ((40 : Int) < (tn : Int)) = true := decide_eq_true (by omega)
        go_enter Tryd.func3, Tryd.ntmps3
        go_wp2_with fail
        refine (head_any _ (hT.go (bal (Below.refl _ _) _))).mono ?_
        rintro e w1 ⟨rfl, hB1'⟩
        have hB1 := bgo (bal (Below.refl w.heap.size w) _) hB1'
        have c0 : w1.cell? ⟨w.heap.size, 0, none⟩ = some (.int .i64 si) := (hB1'.cell (p := ⟨w.heap.size, 0, none⟩) (by simp)).trans (by simp [go_sem])
        have c1 : w1.cell? ⟨w.heap.size, 1, none⟩ = some (.slice SA sn sca) := (hB1'.cell (p := ⟨w.heap.size, 1, none⟩) (by simp)).trans (by simp [go_sem])
        have c2 : w1.cell? ⟨w.heap.size, 2, none⟩ = some (.slice SB sm scb) := (hB1'.cell (p := ⟨w.heap.size, 2, none⟩) (by simp)).trans (by simp [go_sem])
        have hsz : w.heap.size < w1.heap.size := by have := hB1'.size; simp at this; omega
        clear hB1'
        go_wp2_with fail
        refine (usable_any seed h _ 1 1 [text] rfl (by decide) true Hu _ (sl_cells (World.alloc_heap_new _ _) rfl rfl)).mono ?_
        rintro e w' ⟨rfl, rfl⟩
        have hBu := bal hB1 (.cells #[.string text] 9)
        go_wp2_with fail
        refine (light_at si SA SB sca scb sn sm hsn hsm true Hlt _).mono ?_
        rintro e w2 ⟨rfl, hB2'⟩
        have hB2 := bgo hBu hB2'
        have d0 : w2.cell? ⟨w.heap.size, 0, none⟩ = some (.int .i64 si) := (hB2'.cell (p := ⟨w.heap.size, 0, none⟩) (by simp; omega)).trans (((bal (Below.refl w1.heap.size w1) _).cell (p := ⟨w.heap.size, 0, none⟩) hsz).trans c0)
        have d1 : w2.cell? ⟨w.heap.size, 1, none⟩ = some (.slice SA sn sca) := (hB2'.cell (p := ⟨w.heap.size, 1, none⟩) (by simp; omega)).trans (((bal (Below.refl w1.heap.size w1) _).cell (p := ⟨w.heap.size, 1, none⟩) hsz).trans c1)
        have d2 : w2.cell? ⟨w.heap.size, 2, none⟩ = some (.slice SB sm scb) := (hB2'.cell (p := ⟨w.heap.size, 2, none⟩) (by simp; omega)).trans (((bal (Below.refl w1.heap.size w1) _).cell (p := ⟨w.heap.size, 2, none⟩) hsz).trans c2)
        have hsz2 : w.heap.size < w2.heap.size := by have := hB2'.size; simp at this; omega
        clear hB2' hBu c0 c1 c2
        go_wp2_with fail
        go_ret
        exact ⟨rfl, hB2⟩
theorem onetimeMatchesReference_walk (seed : ByteArray) (h i : Int) (text : ByteArray) (root : Int) (q : Sgn) (TA : Option Addr) (tca : Nat) (ts : List ByteArray) (GA : Option Addr) (gca : Nat) (gs : Sigs) (w : World)
    (hs : seed.size ≤ maxLen) (_ : (Lit.int .i64 h).wf = true) (_ : (Lit.int .i64 i).wf = true) (ht : text.size ≤ maxLen) (wr : (Lit.int .u64 root).wf = true) (S : SgnOk w q) (hTA : Sl w w.heap.size 1 TA ts.length (strV ts)) (tl : ts.length ≤ tca ∧ tca ≤ maxLen) (_ : ∀ s ∈ ts, s.size ≤ maxLen) (hGA : Sl w w.heap.size 3 GA gs.length (sigsV gs)) (gl : gs.length ≤ gca ∧ gca ≤ maxLen) (gw : ∀ x ∈ gs, (Lit.int .i64 x.i).wf = true) (hT : OTabs w) :
    Calls Tryd.prog 3 #[.string seed, .int .i64 h, .int .i64 i, .string text, .int .u64 root, sgnV q, .slice TA ts.length tca, .slice GA gs.length gca] w fun e w' => e = .returned (.bool true) ∧ Below w.heap.size w w' := by
  obtain ⟨u, rfl⟩ := u64_of_wf wr
  exact onm_main seed h i text u q.i q.A q.c.length q.ca q.c q.B q.p.length q.cb q.p TA ts.length tca ts GA gs.length gca gs w hs ht rfl rfl (Nat.le_trans S.la.1 S.la.2) (Nat.le_trans S.lb.1 S.lb.2) S.sa S.sb rfl (Nat.le_trans tl.1 tl.2) hTA rfl (Nat.le_trans gl.1 gl.2) hGA gw hT
end Go.Proofs.YthgkjcofmkkdcaaDoor
