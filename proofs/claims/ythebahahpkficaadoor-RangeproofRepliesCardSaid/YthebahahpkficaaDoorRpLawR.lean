/- The walk of RangeproofReplies. -/
import Derived.Test.YthebahahpkficaaDoorRpLawL
namespace Go.Proofs.YthebahahpkficaaDoor
open Go.RowKit
set_option linter.unusedVariables false
theorem eqA' (d : Nat) (a b a' b' : Int) (w : World) : (Op.equalIn (d + 2) 23 (.agg #[.int .i64 a, .int .i64 b]) (.agg #[.int .i64 a', .int .i64 b'])).run Tryd.prog w = .ok ((a == a') && (b == b')) w := eqArr2 d a b a' b' w
/-- Another reply is wrong. -/
theorem side_z {c f e z z' i : Int} (h : sideB c f e z i = true) (h' : sideB c f e z' i = true) : z = z' := by
  unfold sideB at h h'
  simp only [Bool.and_eq_true, beq_iff_eq] at h h'
  obtain ⟨zn, rfl, hz⟩ := inFB_get h.2.1
  obtain ⟨zn', rfl, hz'⟩ := inFB_get h'.2.1
  have he : pwI 9 (zn : Int) = pwI 9 (zn' : Int) := h.2.2.trans h'.2.2.symm
  rw [pw9, pw9, Int.natCast_inj] at he
  rw [Grp.el_9.inj Grp.nine_1 hz hz' he]
/-- Another first message is wrong. -/
theorem side_f {c f f' e z : Int} {i : Nat} (hc : elB c = true) (hf : elB f = true) (hf' : elB f' = true) (h : sideB c f e z (i : Int) = true) (h' : sideB c f' e z (i : Int) = true) : f = f' := by
  obtain ⟨C, rfl, hC, eC⟩ := elB_get hc
  obtain ⟨a, rfl, ha, ea⟩ := elB_get hf
  obtain ⟨b, rfl, hb, eb⟩ := elB_get hf'
  have g := h
  unfold sideB at g
  simp only [Bool.and_eq_true, beq_iff_eq] at g
  obtain ⟨en, rfl, _⟩ := inFB_get g.1
  obtain ⟨zn, rfl, _⟩ := inFB_get g.2.1
  have h1 := ((sideB_nat C a en zn i).1 h).2.2
  have h2 := ((sideB_nat C b en zn i).1 h').2.2
  have hX := (Grp.divd_El eC i).pow' en
  have h3 : Grp.divd C i ^ en * a % Grp.P = Grp.divd C i ^ en * b % Grp.P := by rw [Nat.mul_comm _ a, Nat.mul_comm _ b, ← h1, ← h2]
  have h4 := hX.cancel h3
  rw [Nat.mod_eq_of_lt ha, Nat.mod_eq_of_lt hb] at h4
  rw [h4]
theorem valid_get {p : BP} (h : validB p = true) : rightB p = true ∧ (p.e0 + p.e1) % 1073741789 = chalI p.c p.f0 p.f1 := by
  unfold validB at h
  simp only [Bool.and_eq_true, beq_iff_eq] at h
  exact h
theorem right_all {p : BP} (h : rightB p = true) : elB p.c = true ∧ elB p.f0 = true ∧ elB p.f1 = true ∧ sideB p.c p.f0 p.e0 p.z0 0 = true ∧ sideB p.c p.f1 p.e1 p.z1 1 = true := by
  unfold rightB at h
  simp only [Bool.and_eq_true] at h
  exact ⟨h.1.1, h.1.2.1, h.1.2.2, h.2.1, h.2.2⟩
theorem not_valid {p : BP} (h : validB p = true → False) : validB p = false := by
  cases hv : validB p with
  | false => rfl
  | true => exact (h hv).elim
theorem bad_z0 {pc f0 f1 e0 e1 z0 z1 nv : Int} (h : validB ⟨pc, f0, f1, e0, e1, z0, z1⟩ = true) (hne : z0 ≠ nv) : validB ⟨pc, f0, f1, e0, e1, nv, z1⟩ = false := by
  refine not_valid fun h' => ?_
  refine hne (side_z (right_all (valid_get h).1).2.2.2.1 (right_all (valid_get h').1).2.2.2.1)
theorem eq_z0 (pc f0 f1 e0 e1 z0 z1 nv : Int) (w : World) : (binOp .eql 25 (.agg #[.int .i64 pc, .int .i64 f0, .int .i64 f1, .int .i64 e0, .int .i64 e1, .int .i64 nv, .int .i64 z1]) (.agg #[.int .i64 pc, .int .i64 f0, .int .i64 f1, .int .i64 e0, .int .i64 e1, .int .i64 z0, .int .i64 z1])).run Tryd.prog w = .ok (.bool (nv == z0)) w := by
  have hf : Tryd.prog.underlying 25 = some (.struct (Tryd.prog.fieldsOf 25)) := by kernel_rfl
  cases hq : (nv == z0) <;> simp [go_sem, eqA', hq, Op.eqFields]
theorem bad_z1 {pc f0 f1 e0 e1 z0 z1 nv : Int} (h : validB ⟨pc, f0, f1, e0, e1, z0, z1⟩ = true) (hne : z1 ≠ nv) : validB ⟨pc, f0, f1, e0, e1, z0, nv⟩ = false := by
  refine not_valid fun h' => ?_
  refine hne (side_z (right_all (valid_get h).1).2.2.2.2 (right_all (valid_get h').1).2.2.2.2)
theorem eq_z1 (pc f0 f1 e0 e1 z0 z1 nv : Int) (w : World) : (binOp .eql 25 (.agg #[.int .i64 pc, .int .i64 f0, .int .i64 f1, .int .i64 e0, .int .i64 e1, .int .i64 z0, .int .i64 nv]) (.agg #[.int .i64 pc, .int .i64 f0, .int .i64 f1, .int .i64 e0, .int .i64 e1, .int .i64 z0, .int .i64 z1])).run Tryd.prog w = .ok (.bool (nv == z1)) w := by
  have hf : Tryd.prog.underlying 25 = some (.struct (Tryd.prog.fieldsOf 25)) := by kernel_rfl
  cases hq : (nv == z1) <;> simp [go_sem, eqA', hq, Op.eqFields]
theorem bad_e0 {pc f0 f1 e0 e1 z0 z1 nv : Int} (h : validB ⟨pc, f0, f1, e0, e1, z0, z1⟩ = true) (hne : e0 ≠ nv) : validB ⟨pc, f0, f1, nv, e1, z0, z1⟩ = false := by
  refine not_valid fun h' => ?_
  have a1 := (valid_get h).2
  have a2 := (valid_get h').2
  have b1 := right_parts (valid_get h).1
  have b2 := right_parts (valid_get h').1
  simp only [] at a1 a2 b1 b2
  rw [← a2] at a1
  exact hne (by omega)
theorem eq_e0 (pc f0 f1 e0 e1 z0 z1 nv : Int) (w : World) : (binOp .eql 25 (.agg #[.int .i64 pc, .int .i64 f0, .int .i64 f1, .int .i64 nv, .int .i64 e1, .int .i64 z0, .int .i64 z1]) (.agg #[.int .i64 pc, .int .i64 f0, .int .i64 f1, .int .i64 e0, .int .i64 e1, .int .i64 z0, .int .i64 z1])).run Tryd.prog w = .ok (.bool (nv == e0)) w := by
  have hf : Tryd.prog.underlying 25 = some (.struct (Tryd.prog.fieldsOf 25)) := by kernel_rfl
  cases hq : (nv == e0) <;> simp [go_sem, eqA', hq, Op.eqFields]
theorem bad_e1 {pc f0 f1 e0 e1 z0 z1 nv : Int} (h : validB ⟨pc, f0, f1, e0, e1, z0, z1⟩ = true) (hne : e1 ≠ nv) : validB ⟨pc, f0, f1, e0, nv, z0, z1⟩ = false := by
  refine not_valid fun h' => ?_
  have a1 := (valid_get h).2
  have a2 := (valid_get h').2
  have b1 := right_parts (valid_get h).1
  have b2 := right_parts (valid_get h').1
  simp only [] at a1 a2 b1 b2
  rw [← a2] at a1
  exact hne (by omega)
theorem eq_e1 (pc f0 f1 e0 e1 z0 z1 nv : Int) (w : World) : (binOp .eql 25 (.agg #[.int .i64 pc, .int .i64 f0, .int .i64 f1, .int .i64 e0, .int .i64 nv, .int .i64 z0, .int .i64 z1]) (.agg #[.int .i64 pc, .int .i64 f0, .int .i64 f1, .int .i64 e0, .int .i64 e1, .int .i64 z0, .int .i64 z1])).run Tryd.prog w = .ok (.bool (nv == e1)) w := by
  have hf : Tryd.prog.underlying 25 = some (.struct (Tryd.prog.fieldsOf 25)) := by kernel_rfl
  cases hq : (nv == e1) <;> simp [go_sem, eqA', hq, Op.eqFields]
theorem bad_f0 {pc f0 f1 e0 e1 z0 z1 nv : Int} (h : validB ⟨pc, f0, f1, e0, e1, z0, z1⟩ = true) (hne : f0 ≠ nv) : validB ⟨pc, nv, f1, e0, e1, z0, z1⟩ = false := by
  refine not_valid fun h' => ?_
  exact hne (side_f (i := 0) (right_all (valid_get h).1).1 (right_all (valid_get h).1).2.1 (right_all (valid_get h').1).2.1 (right_all (valid_get h).1).2.2.2.1 (right_all (valid_get h').1).2.2.2.1)
theorem eq_f0 (pc f0 f1 e0 e1 z0 z1 nv : Int) (w : World) : (binOp .eql 25 (.agg #[.int .i64 pc, .int .i64 nv, .int .i64 f1, .int .i64 e0, .int .i64 e1, .int .i64 z0, .int .i64 z1]) (.agg #[.int .i64 pc, .int .i64 f0, .int .i64 f1, .int .i64 e0, .int .i64 e1, .int .i64 z0, .int .i64 z1])).run Tryd.prog w = .ok (.bool (nv == f0)) w := by
  have hf : Tryd.prog.underlying 25 = some (.struct (Tryd.prog.fieldsOf 25)) := by kernel_rfl
  cases hq : (nv == f0) <;> simp [go_sem, eqA', hq, Op.eqFields]
theorem bad_f1 {pc f0 f1 e0 e1 z0 z1 nv : Int} (h : validB ⟨pc, f0, f1, e0, e1, z0, z1⟩ = true) (hne : f1 ≠ nv) : validB ⟨pc, f0, nv, e0, e1, z0, z1⟩ = false := by
  refine not_valid fun h' => ?_
  exact hne (side_f (i := 1) (right_all (valid_get h).1).1 (right_all (valid_get h).1).2.2.1 (right_all (valid_get h').1).2.2.1 (right_all (valid_get h).1).2.2.2.2 (right_all (valid_get h').1).2.2.2.2)
theorem eq_f1 (pc f0 f1 e0 e1 z0 z1 nv : Int) (w : World) : (binOp .eql 25 (.agg #[.int .i64 pc, .int .i64 f0, .int .i64 nv, .int .i64 e0, .int .i64 e1, .int .i64 z0, .int .i64 z1]) (.agg #[.int .i64 pc, .int .i64 f0, .int .i64 f1, .int .i64 e0, .int .i64 e1, .int .i64 z0, .int .i64 z1])).run Tryd.prog w = .ok (.bool (nv == f1)) w := by
  have hf : Tryd.prog.underlying 25 = some (.struct (Tryd.prog.fieldsOf 25)) := by kernel_rfl
  cases hq : (nv == f1) <;> simp [go_sem, eqA', hq, Op.eqFields]

theorem set_bps : ∀ (l : List BP) (i : Nat) (p : BP), i < l.length → ((((((((bpsC l).set (i * 7) (.int .i64 p.c)).set (i * 7 + 1) (.int .i64 p.f0)).set (i * 7 + 2) (.int .i64 p.f1)).set (i * 7 + 3) (.int .i64 p.e0)).set (i * 7 + 4) (.int .i64 p.e1)).set (i * 7 + 5) (.int .i64 p.z0)).set (i * 7 + 6) (.int .i64 p.z1)) = bpsC (l.set i p) := by
  intro l i p hi
  apply List.ext_getElem?
  intro t
  by_cases ht : t < l.length * 7
  · have hq : t / 7 < l.length := by omega
    have g1 := bpsC_get (l.set i p) (t / 7) (t % 7) (by rw [List.length_set]; exact hq) (Nat.mod_lt _ (by decide))
    have g0 := bpsC_get l (t / 7) (t % 7) hq (Nat.mod_lt _ (by decide))
    rw [show t / 7 * 7 + t % 7 = t by omega] at g1 g0
    rw [g1]
    simp only [List.getElem?_set, List.length_set, bpsC_len]
    by_cases he : t / 7 = i
    · have hgd : (l.set i p).getD (t / 7) zeroBP = p := by rw [he]; simp [List.getD, hi]
      rw [hgd]
      rcases (show t % 7 = 0 ∨ t % 7 = 1 ∨ t % 7 = 2 ∨ t % 7 = 3 ∨ t % 7 = 4 ∨ t % 7 = 5 ∨ t % 7 = 6 by omega) with h | h | h | h | h | h | h
      · rw [if_neg (by omega), if_neg (by omega), if_neg (by omega), if_neg (by omega), if_neg (by omega), if_neg (by omega), if_pos (by omega), if_pos (by omega), h]; rfl
      · rw [if_neg (by omega), if_neg (by omega), if_neg (by omega), if_neg (by omega), if_neg (by omega), if_pos (by omega), if_pos (by omega), h]; rfl
      · rw [if_neg (by omega), if_neg (by omega), if_neg (by omega), if_neg (by omega), if_pos (by omega), if_pos (by omega), h]; rfl
      · rw [if_neg (by omega), if_neg (by omega), if_neg (by omega), if_pos (by omega), if_pos (by omega), h]; rfl
      · rw [if_neg (by omega), if_neg (by omega), if_pos (by omega), if_pos (by omega), h]; rfl
      · rw [if_neg (by omega), if_pos (by omega), if_pos (by omega), h]; rfl
      · rw [if_pos (by omega), if_pos (by omega), h]; rfl
    · have hgd : (l.set i p).getD (t / 7) zeroBP = l.getD (t / 7) zeroBP := by
        simp only [List.getD]
        rw [List.getElem?_set_ne (fun e => he e.symm)]
      rw [hgd, if_neg (by omega), if_neg (by omega), if_neg (by omega), if_neg (by omega), if_neg (by omega), if_neg (by omega), if_neg (by omega), g0]
  · rw [List.getElem?_eq_none (by simp only [List.length_set, bpsC_len]; omega), List.getElem?_eq_none (by rw [bpsC_len, List.length_set]; omega)]
theorem verify_set (c bits : Int) (l : List BP) (i : Nat) (p : BP) (hi : i < l.length) (h : validB p = false) : verifyB c bits (l.set i p) = false := by
  refine verify_no c bits _ i (by rw [List.length_set]; exact hi) ?_
  have : (l.set i p).getD i zeroBP = p := by simp [List.getD, hi]
  rw [this]
  exact h
theorem row_cells {W : World} {g n cap : Nat} {l : List BP} {base : Nat} (h : W.ownsRow base 25 7 (.slice (some ⟨g, 0, none⟩) n cap) n (bpsC l)) (t : Nat) (ht : t < n * 7) : (∃ v, W.cell? ⟨g, t, none⟩ = some v ∧ v.oneCell' = true) ∧ W.frozen? ⟨g, t, none⟩ = false := by
  have hl := h.1
  have hv : (bpsC l)[t]? = some ((bpsC l)[t]'(by omega)) := List.getElem?_eq_getElem (by omega)
  refine ⟨⟨_, (h.cellAt t ht).trans hv, bpsC_one l _ (List.getElem_mem _)⟩, ?_⟩
  rcases h.2 with ⟨h', _⟩ | ⟨g', cap', cur, h', _, hg, _⟩
  · cases h'
  · cases h'
    simp [World.frozen?, hg]
theorem row_at {W : World} {g n cap : Nat} {l : List BP} {base : Nat} (h : W.ownsRow base 25 7 (.slice (some ⟨g, 0, none⟩) n cap) n (bpsC l)) (hl : l.length = n) (i j : Nat) (hi : i < n) (hj : j < 7) (v : Value) (hv : (bpC (l.getD i zeroBP))[j]? = some v) : W.cell? ⟨g, i * 7 + j, none⟩ = some v := by
  rw [h.cellAt (i * 7 + j) (by omega), bpsC_get l i j (by omega) hj]
  exact hv
theorem keep7 {W : World} {g X a : Nat} {u v0 v1 v2 v3 v4 v5 v6 : Value} {t0 t1 t2 t3 t4 t5 t6 : Nat} (hne : X ≠ g) (h : W.cell? ⟨X, a, none⟩ = some u) :
    (((((((W.setCell ⟨g, t0, none⟩ v0).setCell ⟨g, t1, none⟩ v1).setCell ⟨g, t2, none⟩ v2).setCell ⟨g, t3, none⟩ v3).setCell ⟨g, t4, none⟩ v4).setCell ⟨g, t5, none⟩ v5).setCell ⟨g, t6, none⟩ v6).drew.cell? ⟨X, a, none⟩ = some u := by
  have q0 := cell_s (W := W) (j := t0) (v := v0) hne h
  have q1 := cell_s (j := t1) (v := v1) hne q0
  have q2 := cell_s (j := t2) (v := v2) hne q1
  have q3 := cell_s (j := t3) (v := v3) hne q2
  have q4 := cell_s (j := t4) (v := v4) hne q3
  have q5 := cell_s (j := t5) (v := v5) hne q4
  exact cell_sd (j := t6) (v := v6) hne q5
theorem own_drew {W : World} {base : Nat} {e : TypeId} {size n : Nat} {v : Value} {xs : List Value} (h : W.ownsRow base e size v n xs) : W.drew.ownsRow base e size v n xs := h
theorem own7 {W : World} {g n cap base : Nat} {xs : List Value} (h : W.ownsRow base 25 7 (.slice (some ⟨g, 0, none⟩) n cap) n xs) (v0 v1 v2 v3 v4 v5 v6 : Value) (t0 t1 t2 t3 t4 t5 t6 : Nat) :
    (((((((W.setCell ⟨g, t0, none⟩ v0).setCell ⟨g, t1, none⟩ v1).setCell ⟨g, t2, none⟩ v2).setCell ⟨g, t3, none⟩ v3).setCell ⟨g, t4, none⟩ v4).setCell ⟨g, t5, none⟩ v5).setCell ⟨g, t6, none⟩ v6).drew.ownsRow base 25 7 (.slice (some ⟨g, 0, none⟩) n cap) n (((((((xs.set t0 v0).set t1 v1).set t2 v2).set t3 v3).set t4 v4).set t5 v5).set t6 v6) := by
  have q0 := (World.ownsRow.stored (w := W) h t0 v0).1
  have q1 := (World.ownsRow.stored q0 t1 v1).1
  have q2 := (World.ownsRow.stored q1 t2 v2).1
  have q3 := (World.ownsRow.stored q2 t3 v3).1
  have q4 := (World.ownsRow.stored q3 t4 v4).1
  have q5 := (World.ownsRow.stored q4 t5 v5).1
  exact own_drew (World.ownsRow.stored q5 t6 v6).1
theorem below7 {w W : World} {g n : Nat} (h : Below n w W) (hn : n ≤ g) (v0 v1 v2 v3 v4 v5 v6 : Value) (t0 t1 t2 t3 t4 t5 t6 : Nat) :
    Below n w (((((((W.setCell ⟨g, t0, none⟩ v0).setCell ⟨g, t1, none⟩ v1).setCell ⟨g, t2, none⟩ v2).setCell ⟨g, t3, none⟩ v3).setCell ⟨g, t4, none⟩ v4).setCell ⟨g, t5, none⟩ v5).setCell ⟨g, t6, none⟩ v6).drew :=
  (((((((h.setCell (p := ⟨g, t0, none⟩) hn _).setCell (p := ⟨g, t1, none⟩) hn _).setCell (p := ⟨g, t2, none⟩) hn _).setCell (p := ⟨g, t3, none⟩) hn _).setCell (p := ⟨g, t4, none⟩) hn _).setCell (p := ⟨g, t5, none⟩) hn _).setCell (p := ⟨g, t6, none⟩) hn _).drew
end Go.Proofs.YthebahahpkficaaDoor
