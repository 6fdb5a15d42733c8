/- The walk of Bench: a valid payslip of three rows. -/
import Derived.Test.YtfjkmhbipkoefaaGreatDoorQ20
namespace Go.Proofs.YtfjkmhbipkoefaaGreatDoor
open Go.RowKit Go.Shelf
set_option linter.unusedVariables false
set_option linter.unusedSimpArgs false
set_option maxRecDepth 100000
def benchP : ByteArray := ⟨#[97, 110, 110]⟩
def benchR : List RowD := [⟨⟨#[98, 97, 115, 105, 99]⟩, 10000, ⟨#[120]⟩⟩, ⟨⟨#[116, 97, 120]⟩, 2500, ⟨#[116, 97, 120]⟩⟩, ⟨⟨#[110, 101, 116]⟩, 7500, ⟨#[114, 101, 115, 116]⟩⟩]
def benchB : List Int := [5, 6, 7]
theorem bench_valid : validB benchP 290 benchR benchB (rootV (leafK benchR benchB 3)) = true := by
  unfold validB
  have h1 : isNameB benchP = true := by decide +kernel
  have h2 : okK benchR benchB benchR.length = true := by decide +kernel
  rw [h1, h2]
  simp [benchR, benchB]
theorem bench_rows : rowsV benchR = [.string ⟨#[98, 97, 115, 105, 99]⟩, .int .i64 10000, .string ⟨#[120]⟩, .string ⟨#[116, 97, 120]⟩, .int .i64 2500, .string ⟨#[116, 97, 120]⟩, .string ⟨#[110, 101, 116]⟩, .int .i64 7500, .string ⟨#[114, 101, 115, 116]⟩] := rfl
theorem bench_blind : intV benchB = [.int .i64 5, .int .i64 6, .int .i64 7] := rfl
/-- What Bench keeps: its rows, its blinding numbers, the sheet. -/
structure BenJ (w : World) (X Y Z : Nat) (r : UInt64) (W : World) : Prop where
  x : W.heap[X]? = some (.cells #[.string ⟨#[98, 97, 115, 105, 99]⟩, .int .i64 10000, .string ⟨#[120]⟩, .string ⟨#[116, 97, 120]⟩, .int .i64 2500, .string ⟨#[116, 97, 120]⟩, .string ⟨#[110, 101, 116]⟩, .int .i64 7500, .string ⟨#[114, 101, 115, 116]⟩] 46 (0, 0))
  y : W.heap[Y]? = some (.cells #[.int .i64 5, .int .i64 6, .int .i64 7] 3 (0, 0))
  z : W.heap[Z]? = some (.cells #[.string ⟨#[97, 110, 110]⟩, .int .i64 290, .slice (some ⟨X, 0, none⟩) 3 3, .slice (some ⟨Y, 0, none⟩) 3 3, .int .u64 r.toNat] 27 (0, 0))
  r : W.heap[w.heap.size]? = some (.cells #[.string ⟨#[]⟩, .int .i64 0, .slice none 0 0, .slice none 0 0, .int .u64 0] 27 (0, 0))
  hx : w.heap.size < X
  hy : w.heap.size < Y
  hz : w.heap.size < Z
  be : Below w.heap.size w W
theorem BenJ.go {w : World} {X Y Z : Nat} {r : UInt64} {W W' : World} (h : BenJ w X Y Z r W) (k : Below W.heap.size W W') : BenJ w X Y Z r W' :=
  ⟨(k.block _ (Array.getElem?_eq_some_iff.1 h.x).1).trans h.x, (k.block _ (Array.getElem?_eq_some_iff.1 h.y).1).trans h.y, (k.block _ (Array.getElem?_eq_some_iff.1 h.z).1).trans h.z, (k.block _ (Array.getElem?_eq_some_iff.1 h.r).1).trans h.r, h.hx, h.hy, h.hz, bgo h.be k⟩
theorem BenJ.app {w : World} {X Y Z : Nat} {r : UInt64} {W W' : World} {v : Value} {n : Nat} {xs : List Value} (h : BenJ w X Y Z r W) (hown : W.ownsRow w.heap.size 9 1 v n xs) (hk : Kept W v W') (hB : Below w.heap.size w W') : BenJ w X Y Z r W' := by
  have ks : ∀ {b : Nat} {cs : Array Value} {T : TypeId} {fr : Nat × Nat}, W.heap[b]? = some (.cells cs T fr) → T ≠ 9 → W'.heap[b]? = some (.cells cs T fr) := fun hb hT => (hk.2 _ (Array.getElem?_eq_some_iff.1 hb).1 (own_ne hown hb hT)).trans hb
  exact ⟨ks h.x (by decide), ks h.y (by decide), ks h.z (by decide), ks h.r (by decide), h.hx, h.hy, h.hz, hB⟩
theorem rc_at (k : Nat) (hk : k < 3) : (#[.string ⟨#[98, 97, 115, 105, 99]⟩, .int .i64 10000, .string ⟨#[120]⟩, .string ⟨#[116, 97, 120]⟩, .int .i64 2500, .string ⟨#[116, 97, 120]⟩, .string ⟨#[110, 101, 116]⟩, .int .i64 7500, .string ⟨#[114, 101, 115, 116]⟩] : Array Value)[k * 3]? = some (.string (benchR.getD k default).l) ∧ (#[.string ⟨#[98, 97, 115, 105, 99]⟩, .int .i64 10000, .string ⟨#[120]⟩, .string ⟨#[116, 97, 120]⟩, .int .i64 2500, .string ⟨#[116, 97, 120]⟩, .string ⟨#[110, 101, 116]⟩, .int .i64 7500, .string ⟨#[114, 101, 115, 116]⟩] : Array Value)[k * 3 + 1]? = some (.int .i64 (benchR.getD k default).c) ∧ (#[.string ⟨#[98, 97, 115, 105, 99]⟩, .int .i64 10000, .string ⟨#[120]⟩, .string ⟨#[116, 97, 120]⟩, .int .i64 2500, .string ⟨#[116, 97, 120]⟩, .string ⟨#[110, 101, 116]⟩, .int .i64 7500, .string ⟨#[114, 101, 115, 116]⟩] : Array Value)[k * 3 + 2]? = some (.string (benchR.getD k default).r) ∧ (#[.int .i64 5, .int .i64 6, .int .i64 7] : Array Value)[k]? = some (.int .i64 (benchB.getD k 0)) := by
  rcases (show k = 0 ∨ k = 1 ∨ k = 2 by omega) with rfl | rfl | rfl <;> exact ⟨rfl, rfl, rfl, rfl⟩
theorem bench_c (k : Nat) (hk : k < 3) : 0 ≤ (benchR.getD k default).c ∧ (benchR.getD k default).c < 1073741789 ∧ 0 ≤ benchB.getD k 0 ∧ benchB.getD k 0 < 1073741789 ∧ (benchR.getD k default).l.size ≤ 100 ∧ (benchR.getD k default).r.size ≤ 100 := by
  rcases (show k = 0 ∨ k = 1 ∨ k = 2 by omega) with rfl | rfl | rfl <;> decide
set_option maxHeartbeats 8000000 in
theorem bench_any (r : UInt64) (Hr : Hid (rootV (leafK benchR benchB 3) = r)) (w : World) (hT : PTabs w) :
    Calls Tryz.prog 11 #[] w fun e w' => ∃ A B, e = .returned (.agg #[.string benchP, .int .i64 290, .slice A 3 3, .slice B 3 3, .int .u64 r.toNat]) ∧ Sl w' w'.heap.size 3 A 3 (rowsV benchR) ∧ Sl w' w'.heap.size 1 B 3 (intV benchB) ∧ Below w.heap.size w w' := by
  have HT := Lib.hid hT
  obtain ⟨i0, hi0, hz0, hz1, hz2⟩ := info_parts info_str
  clear hT
  go_enter Tryz.func11, Tryz.ntmps11
  go_upto_region 2 with fail
  obtain ⟨U, hU⟩ : ∃ U, U = (((w.alloc (.cells #[.string ⟨#[]⟩, .int .i64 0, .slice none 0 0, .slice none 0 0, .int .u64 0] 27)).alloc (.cells #[.string ⟨#[98, 97, 115, 105, 99]⟩, .int .i64 10000, .string ⟨#[120]⟩, .string ⟨#[116, 97, 120]⟩, .int .i64 2500, .string ⟨#[116, 97, 120]⟩, .string ⟨#[110, 101, 116]⟩, .int .i64 7500, .string ⟨#[114, 101, 115, 116]⟩] 46)).alloc (.cells #[.int .i64 5, .int .i64 6, .int .i64 7] 3)).alloc (.cells #[.string ⟨#[97, 110, 110]⟩, .int .i64 290, .slice (some ⟨w.heap.size + 1, 0, none⟩) 3 3, .slice (some ⟨w.heap.size + 1 + 1, 0, none⟩) 3 3, .int .u64 0] 27) := ⟨_, rfl⟩
  rw [← hU]
  have hJ0 : BenJ w (w.heap.size + 1) (w.heap.size + 1 + 1) (w.heap.size + 1 + 1 + 1) 0 U := by
    rw [hU]
    refine ⟨?_, ?_, ?_, ?_, by omega, by omega, by omega, bal (bal (bal (bal (Below.refl _ _) _) _) _) _⟩
    · refine (Below.heap_alloc _ _ _ (by simp <;> omega)).trans ((Below.heap_alloc _ _ _ (by simp)).trans ?_)
      have := World.alloc_heap_new (w.alloc (.cells #[.string ⟨#[]⟩, .int .i64 0, .slice none 0 0, .slice none 0 0, .int .u64 0] 27)) (.cells #[.string ⟨#[98, 97, 115, 105, 99]⟩, .int .i64 10000, .string ⟨#[120]⟩, .string ⟨#[116, 97, 120]⟩, .int .i64 2500, .string ⟨#[116, 97, 120]⟩, .string ⟨#[110, 101, 116]⟩, .int .i64 7500, .string ⟨#[114, 101, 115, 116]⟩] 46)
      rw [World.size_alloc] at this
      exact this
    · refine (Below.heap_alloc _ _ _ (by simp)).trans ?_
      have := World.alloc_heap_new ((w.alloc (.cells #[.string ⟨#[]⟩, .int .i64 0, .slice none 0 0, .slice none 0 0, .int .u64 0] 27)).alloc (.cells #[.string ⟨#[98, 97, 115, 105, 99]⟩, .int .i64 10000, .string ⟨#[120]⟩, .string ⟨#[116, 97, 120]⟩, .int .i64 2500, .string ⟨#[116, 97, 120]⟩, .string ⟨#[110, 101, 116]⟩, .int .i64 7500, .string ⟨#[114, 101, 115, 116]⟩] 46)) (.cells #[.int .i64 5, .int .i64 6, .int .i64 7] 3)
      rw [World.size_alloc, World.size_alloc] at this
      exact this
    · have := World.alloc_heap_new (((w.alloc (.cells #[.string ⟨#[]⟩, .int .i64 0, .slice none 0 0, .slice none 0 0, .int .u64 0] 27)).alloc (.cells #[.string ⟨#[98, 97, 115, 105, 99]⟩, .int .i64 10000, .string ⟨#[120]⟩, .string ⟨#[116, 97, 120]⟩, .int .i64 2500, .string ⟨#[116, 97, 120]⟩, .string ⟨#[110, 101, 116]⟩, .int .i64 7500, .string ⟨#[114, 101, 115, 116]⟩] 46)).alloc (.cells #[.int .i64 5, .int .i64 6, .int .i64 7] 3)) (.cells #[.string ⟨#[97, 110, 110]⟩, .int .i64 290, .slice (some ⟨w.heap.size + 1, 0, none⟩) 3 3, .slice (some ⟨w.heap.size + 1 + 1, 0, none⟩) 3 3, .int .u64 0] 27)
      rw [World.size_alloc, World.size_alloc, World.size_alloc] at this
      exact this
    · exact (Below.heap_alloc _ _ _ (by simp <;> omega)).trans ((Below.heap_alloc _ _ _ (by simp <;> omega)).trans ((Below.heap_alloc _ _ _ (by simp)).trans (World.alloc_heap_new _ _)))
  clear hU
  obtain ⟨Z, hZ⟩ : ∃ Z, Z = w.heap.size + 1 + 1 + 1 := ⟨_, rfl⟩
  rw [← hZ] at hJ0 ⊢
  obtain ⟨Y, hY⟩ : ∃ Y, Y = w.heap.size + 1 + 1 := ⟨_, rfl⟩
  rw [← hY] at hJ0 ⊢
  obtain ⟨X, hX⟩ : ∃ X, X = w.heap.size + 1 := ⟨_, rfl⟩
  rw [← hX] at hJ0 ⊢
  have hne : X ≠ Z ∧ Y ≠ Z := ⟨by omega, by omega⟩
  have HJ0 := Lib.hid hJ0
  clear hJ0 hX hY hZ
  go_wp2_with fail
  go_loopw [2, 3] (fun v q wr => ∃ k : Nat, k ≤ 3 ∧ q = .int .i64 (k : Int) ∧ BenJ w X Y Z 0 wr ∧ wr.ownsRow w.heap.size 9 1 v k (strV (leafK benchR benchB k))) (fun _ q _ => 3 - (intOf q).toNat)
  case atStart => exact ⟨0, by omega, rfl, HJ0.out, ⟨rfl, .inl ⟨rfl, rfl⟩⟩⟩
  case round =>
    clear HJ0
    obtain ⟨k, hk, rfl, hJ, hown⟩ := hrel
    have HJ := Lib.hid hJ
    have Hown := Lib.hid hown
    have c2 : wr.cell? ⟨Z, 2, none⟩ = some (.slice (some ⟨X, 0, none⟩) 3 3) := by rw [Lib.cell_of_heap hJ.z]; rfl
    clear hJ hown
    by_cases hlt : k < 3
    · have hlt' : (k : Int) < 3 := by omega
      have hrc := rc_at k hlt
      have hbc := bench_c k hlt
      have hsn := leafK_snoc benchR benchB k
      unfold leafAt at hsn
      obtain ⟨x, hx⟩ : ∃ x, benchR.getD k default = x := ⟨_, rfl⟩
      obtain ⟨bv, hbv⟩ : ∃ b, benchB.getD k 0 = b := ⟨_, rfl⟩
      rw [hx, hbv] at hrc hbc hsn
      obtain ⟨xl, xc, xr⟩ := x
      dsimp only at hrc hbc hsn
      obtain ⟨h1, h2, h3, h4, h5, h6⟩ := hbc
      have hcm : xc % 1073741789 = xc := by omega
      rw [hcm] at hsn
      obtain ⟨cx, hcx⟩ : ∃ c, comI xc bv = c := ⟨_, rfl⟩
      have hce : comE bv = 0 := by unfold comE; rw [if_pos ⟨h3, h4⟩]
      have hcb := comI_bd xc bv
      rw [hcx] at hcb hsn
      obtain ⟨t, ht⟩ : ∃ t, leafB xl cx xr = t := ⟨_, rfl⟩
      rw [ht] at hsn
      have hcI : I64 cx := ⟨by omega, by omega⟩
      have HcI := Lib.hid hcI
      have Hrc := Lib.hid hrc
      have Hsn := Lib.hid hsn
      have Hcx := Lib.hid hcx
      have Hce := Lib.hid hce
      have Ht := Lib.hid ht
      have hl70 : xl.size ≤ 70368744177000 := by omega
      have hr70 : xr.size ≤ 70368744177000 := by omega
      clear hx hbv hsn hrc hcx hce ht hcI hcb hcm h3 h4 h5 h6
      go_upto_region 6 with fail
      have hJd := HJ.out.go (Below.refl wr.heap.size wr).drew
      have hGd : GTab wr.drew := (HT.out.go HJ.out.be.drew).2
      have HJd := Lib.hid hJd
      refine wp_region_noPanic ?_
      refine wp_region_held_drew (S := fun W => W.heap[Z]? = some (.cells #[.string ⟨#[97, 110, 110]⟩, .int .i64 290, .slice (some ⟨X, 0, none⟩) 3 3, .slice (some ⟨Y, 0, none⟩) 3 3, .int .u64 0] 27 (0, 0)) ∧ W.heap[X]? = some (.cells #[.string ⟨#[98, 97, 115, 105, 99]⟩, .int .i64 10000, .string ⟨#[120]⟩, .string ⟨#[116, 97, 120]⟩, .int .i64 2500, .string ⟨#[116, 97, 120]⟩, .string ⟨#[110, 101, 116]⟩, .int .i64 7500, .string ⟨#[114, 101, 115, 116]⟩] 46 (0, 0)) ∧ W.heap[Y]? = some (.cells #[.int .i64 5, .int .i64 6, .int .i64 7] 3 (0, 0))) (by kernel_rfl) ⟨hJd.z, hJd.x, hJd.y⟩ (fun hHeld => ?_)
      clear hJd c2
      refine wpAnyH_take (i := 0) (v := ?_) rfl (by kernel_rfl) (by kernel_rfl) (by kernel_rfl) (fun _ _ _ h => h) (Or.inl ⟨by kernel_rfl, ?_⟩) (by assumption) ?_
      rotate_left
      · intro w hSw
        (try dsimp only at hSw)
        go_simp
        first | done | with_reducible rfl
      simp only [List.getElem_toArray, List.getElem_cons_zero, List.getElem_cons_succ, Act.put, List.setIfInBounds_toArray, List.set_cons_zero, List.set_cons_succ]
      refine wpAnyH_take (i := 1) (v := ?_) rfl (by kernel_rfl) (by kernel_rfl) (by kernel_rfl) (fun _ _ _ h => h) (Or.inl ⟨by kernel_rfl, ?_⟩) (by assumption) ?_
      rotate_left
      · intro w hSw
        (try dsimp only at hSw)
        have z0 : w.cell? ⟨Z, 2, none⟩ = some (.slice (some ⟨X, 0, none⟩) 3 3) := by rw [Lib.cell_of_heap hSw.1]; rfl
        go_simp
        first | done | with_reducible rfl
      simp only [List.getElem_toArray, List.getElem_cons_zero, List.getElem_cons_succ, Act.put, List.setIfInBounds_toArray, List.set_cons_zero, List.set_cons_succ]
      refine wpAnyH_take (i := 2) (v := ?_) rfl (by kernel_rfl) (by kernel_rfl) (by kernel_rfl) (fun _ _ _ h => h) (Or.inl ⟨by kernel_rfl, ?_⟩) (by assumption) ?_
      rotate_left
      · intro w hSw
        (try dsimp only at hSw)
        go_simp
        first | done | with_reducible rfl
      simp only [List.getElem_toArray, List.getElem_cons_zero, List.getElem_cons_succ, Act.put, List.setIfInBounds_toArray, List.set_cons_zero, List.set_cons_succ]
      refine wpAnyH_take (i := 3) (v := ?_) rfl (by kernel_rfl) (by kernel_rfl) (by kernel_rfl) (fun _ _ _ h => h) (Or.inl ⟨by kernel_rfl, ?_⟩) (by assumption) ?_
      rotate_left
      · intro w hSw
        (try dsimp only at hSw)
        go_simp
        first | done | with_reducible rfl
      simp only [List.getElem_toArray, List.getElem_cons_zero, List.getElem_cons_succ, Act.put, List.setIfInBounds_toArray, List.set_cons_zero, List.set_cons_succ]
      refine wpAnyH_take (i := 4) (v := ?_) rfl (by kernel_rfl) (by kernel_rfl) (by kernel_rfl) (fun _ _ _ h => h) (Or.inl ⟨by kernel_rfl, ?_⟩) (by assumption) ?_
      rotate_left
      · intro w hSw
        (try dsimp only at hSw)
        go_simp
        first | done | with_reducible rfl
      simp only [List.getElem_toArray, List.getElem_cons_zero, List.getElem_cons_succ, Act.put, List.setIfInBounds_toArray, List.set_cons_zero, List.set_cons_succ]
      refine wpAnyH_take (i := 5) (v := ?_) rfl (by kernel_rfl) (by kernel_rfl) (by kernel_rfl) (fun _ _ _ h => h) (Or.inl ⟨by kernel_rfl, ?_⟩) (by assumption) ?_
      rotate_left
      · intro w hSw
        (try dsimp only at hSw)
        have z0 : w.cell? ⟨X, k * 3 + 1, none⟩ = some (.int .i64 xc) := by rw [Lib.cell_of_heap hSw.2.1]; exact Hrc.out.2.1
        go_simp
        first | done | with_reducible rfl
      simp only [List.getElem_toArray, List.getElem_cons_zero, List.getElem_cons_succ, Act.put, List.setIfInBounds_toArray, List.set_cons_zero, List.set_cons_succ]
      refine wpAnyH_take (i := 6) (v := ?_) rfl (by kernel_rfl) (by kernel_rfl) (by kernel_rfl) (fun _ _ _ h => h) (Or.inl ⟨by kernel_rfl, ?_⟩) (by assumption) ?_
      rotate_left
      · intro w hSw
        (try dsimp only at hSw)
        go_simp
        first | done | with_reducible rfl
      simp only [List.getElem_toArray, List.getElem_cons_zero, List.getElem_cons_succ, Act.put, List.setIfInBounds_toArray, List.set_cons_zero, List.set_cons_succ]
      refine wpAnyH_take (i := 7) (v := ?_) rfl (by kernel_rfl) (by kernel_rfl) (by kernel_rfl) (fun _ _ _ h => h) (Or.inl ⟨by kernel_rfl, ?_⟩) (by assumption) ?_
      rotate_left
      · intro w hSw
        (try dsimp only at hSw)
        have z0 : w.cell? ⟨Z, 3, none⟩ = some (.slice (some ⟨Y, 0, none⟩) 3 3) := by rw [Lib.cell_of_heap hSw.1]; rfl
        go_simp
        first | done | with_reducible rfl
      simp only [List.getElem_toArray, List.getElem_cons_zero, List.getElem_cons_succ, Act.put, List.setIfInBounds_toArray, List.set_cons_zero, List.set_cons_succ]
      refine wpAnyH_take (i := 8) (v := ?_) rfl (by kernel_rfl) (by kernel_rfl) (by kernel_rfl) (fun _ _ _ h => h) (Or.inl ⟨by kernel_rfl, ?_⟩) (by assumption) ?_
      rotate_left
      · intro w hSw
        (try dsimp only at hSw)
        go_simp
        first | done | with_reducible rfl
      simp only [List.getElem_toArray, List.getElem_cons_zero, List.getElem_cons_succ, Act.put, List.setIfInBounds_toArray, List.set_cons_zero, List.set_cons_succ]
      refine wpAnyH_take (i := 9) (v := ?_) rfl (by kernel_rfl) (by kernel_rfl) (by kernel_rfl) (fun _ _ _ h => h) (Or.inl ⟨by kernel_rfl, ?_⟩) (by assumption) ?_
      rotate_left
      · intro w hSw
        (try dsimp only at hSw)
        go_simp
        first | done | with_reducible rfl
      simp only [List.getElem_toArray, List.getElem_cons_zero, List.getElem_cons_succ, Act.put, List.setIfInBounds_toArray, List.set_cons_zero, List.set_cons_succ]
      refine wpAnyH_take (i := 10) (v := ?_) rfl (by kernel_rfl) (by kernel_rfl) (by kernel_rfl) (fun _ _ _ h => h) (Or.inl ⟨by kernel_rfl, ?_⟩) (by assumption) ?_
      rotate_left
      · intro w hSw
        (try dsimp only at hSw)
        have z0 : w.cell? ⟨Y, k, none⟩ = some (.int .i64 bv) := by rw [Lib.cell_of_heap hSw.2.2]; exact Hrc.out.2.2.2
        go_simp
        first | done | with_reducible rfl
      simp only [List.getElem_toArray, List.getElem_cons_zero, List.getElem_cons_succ, Act.put, List.setIfInBounds_toArray, List.set_cons_zero, List.set_cons_succ]
      refine wpAnyH_ready (rs := [11]) (by kernel_rfl) (by simp) ?_
      refine AllReadyH.cons rfl (fun K hK => ?_) AllReadyH.nil
      simp only [List.getElem_toArray, List.getElem_cons_zero, List.getElem_cons_succ]
      go_simp
      (with_reducible refine (commit_at xc bv cx 0 Hcx Hce h1 h2 wr.drew hGd).mono ?_)
      rintro e w1 ⟨rfl, hB1⟩
      dsimp only
      have hJ1 := HJd.out.go hB1
      have hB1r := below_undrew hB1
      refine hK.out _ _ ⟨hJ1.z, hJ1.x, hJ1.y⟩ (fun hHeld => ?_)
      clear hK K
      try simp only [List.getElem_toArray, List.getElem_cons_zero, List.getElem_cons_succ, Act.put, List.setIfInBounds_toArray, List.set_cons_zero, List.set_cons_succ]
      refine wpAnyH_take (i := 12) (v := ?_) rfl (by kernel_rfl) (by kernel_rfl) (by kernel_rfl) (fun _ _ _ h => h) (Or.inl ⟨by kernel_rfl, ?_⟩) (by assumption) ?_
      rotate_left
      · intro w hSw
        (try dsimp only at hSw)
        go_simp
        first | done | with_reducible rfl
      simp only [List.getElem_toArray, List.getElem_cons_zero, List.getElem_cons_succ, Act.put, List.setIfInBounds_toArray, List.set_cons_zero, List.set_cons_succ]
      refine wpAnyH_take (i := 13) (v := ?_) rfl (by kernel_rfl) (by kernel_rfl) (by kernel_rfl) (fun _ _ _ h => h) (Or.inl ⟨by kernel_rfl, ?_⟩) (by assumption) ?_
      rotate_left
      · intro w hSw
        (try dsimp only at hSw)
        go_simp
        first | done | with_reducible rfl
      simp only [List.getElem_toArray, List.getElem_cons_zero, List.getElem_cons_succ, Act.put, List.setIfInBounds_toArray, List.set_cons_zero, List.set_cons_succ]
      refine wpAnyH_take (i := 14) (v := ?_) rfl (by kernel_rfl) (by kernel_rfl) (by kernel_rfl) (fun _ _ _ h => h) (Or.inl ⟨by kernel_rfl, ?_⟩) (by assumption) ?_
      rotate_left
      · intro w hSw
        (try dsimp only at hSw)
        go_simp
        first | done | with_reducible rfl
      simp only [List.getElem_toArray, List.getElem_cons_zero, List.getElem_cons_succ, Act.put, List.setIfInBounds_toArray, List.set_cons_zero, List.set_cons_succ]
      refine wpAnyH_take (i := 15) (v := ?_) rfl (by kernel_rfl) (by kernel_rfl) (by kernel_rfl) (fun _ _ _ h => h) (Or.inl ⟨by kernel_rfl, ?_⟩) (by assumption) ?_
      rotate_left
      · intro w hSw
        (try dsimp only at hSw)
        go_simp
        first | done | with_reducible rfl
      simp only [List.getElem_toArray, List.getElem_cons_zero, List.getElem_cons_succ, Act.put, List.setIfInBounds_toArray, List.set_cons_zero, List.set_cons_succ]
      refine wpAnyH_take (i := 16) (v := ?_) rfl (by kernel_rfl) (by kernel_rfl) (by kernel_rfl) (fun _ _ _ h => h) (Or.inl ⟨by kernel_rfl, ?_⟩) (by assumption) ?_
      rotate_left
      · intro w hSw
        (try dsimp only at hSw)
        go_simp
        first | done | with_reducible rfl
      simp only [List.getElem_toArray, List.getElem_cons_zero, List.getElem_cons_succ, Act.put, List.setIfInBounds_toArray, List.set_cons_zero, List.set_cons_succ]
      refine wpAnyH_done (by kernel_rfl) ?_ _
      dsimp only [NoPanic]
      clear hHeld
      have HO1 := Lib.hid (own_below Hown.out hB1r)
      have HJ1 := Lib.hid hJ1
      clear hJ1 hB1 hB1r hGd HJd
      go_upto_region 7 with fail
      have hJ2 := HJ1.out.go (Below.refl w1.heap.size w1).drew
      have HO2 := Lib.hid (own_below HO1.out (Below.refl w1.heap.size w1).drew)
      have hPd : PTabs w1.drew := HT.out.go hJ2.be
      have HJ2 := Lib.hid hJ2
      refine wp_region_noPanic ?_
      refine wp_region_held_drew (S := fun W => W.heap[Z]? = some (.cells #[.string ⟨#[97, 110, 110]⟩, .int .i64 290, .slice (some ⟨X, 0, none⟩) 3 3, .slice (some ⟨Y, 0, none⟩) 3 3, .int .u64 0] 27 (0, 0)) ∧ W.heap[X]? = some (.cells #[.string ⟨#[98, 97, 115, 105, 99]⟩, .int .i64 10000, .string ⟨#[120]⟩, .string ⟨#[116, 97, 120]⟩, .int .i64 2500, .string ⟨#[116, 97, 120]⟩, .string ⟨#[110, 101, 116]⟩, .int .i64 7500, .string ⟨#[114, 101, 115, 116]⟩] 46 (0, 0)) ∧ W.heap[Y]? = some (.cells #[.int .i64 5, .int .i64 6, .int .i64 7] 3 (0, 0))) (by kernel_rfl) ⟨hJ2.z, hJ2.x, hJ2.y⟩ (fun hHeld => ?_)
      clear hJ2
      refine wpAnyH_take (i := 0) (v := ?_) rfl (by kernel_rfl) (by kernel_rfl) (by kernel_rfl) (fun _ _ _ h => h) (Or.inl ⟨by kernel_rfl, ?_⟩) (by assumption) ?_
      rotate_left
      · intro w hSw
        (try dsimp only at hSw)
        go_simp
        first | done | with_reducible rfl
      simp only [List.getElem_toArray, List.getElem_cons_zero, List.getElem_cons_succ, Act.put, List.setIfInBounds_toArray, List.set_cons_zero, List.set_cons_succ]
      refine wpAnyH_take (i := 1) (v := ?_) rfl (by kernel_rfl) (by kernel_rfl) (by kernel_rfl) (fun _ _ _ h => h) (Or.inl ⟨by kernel_rfl, ?_⟩) (by assumption) ?_
      rotate_left
      · intro w hSw
        (try dsimp only at hSw)
        go_simp
        first | done | with_reducible rfl
      simp only [List.getElem_toArray, List.getElem_cons_zero, List.getElem_cons_succ, Act.put, List.setIfInBounds_toArray, List.set_cons_zero, List.set_cons_succ]
      refine wpAnyH_take (i := 2) (v := ?_) rfl (by kernel_rfl) (by kernel_rfl) (by kernel_rfl) (fun _ _ _ h => h) (Or.inl ⟨by kernel_rfl, ?_⟩) (by assumption) ?_
      rotate_left
      · intro w hSw
        (try dsimp only at hSw)
        have z0 : w.cell? ⟨Z, 2, none⟩ = some (.slice (some ⟨X, 0, none⟩) 3 3) := by rw [Lib.cell_of_heap hSw.1]; rfl
        go_simp
        first | done | with_reducible rfl
      simp only [List.getElem_toArray, List.getElem_cons_zero, List.getElem_cons_succ, Act.put, List.setIfInBounds_toArray, List.set_cons_zero, List.set_cons_succ]
      refine wpAnyH_take (i := 3) (v := ?_) rfl (by kernel_rfl) (by kernel_rfl) (by kernel_rfl) (fun _ _ _ h => h) (Or.inl ⟨by kernel_rfl, ?_⟩) (by assumption) ?_
      rotate_left
      · intro w hSw
        (try dsimp only at hSw)
        go_simp
        first | done | with_reducible rfl
      simp only [List.getElem_toArray, List.getElem_cons_zero, List.getElem_cons_succ, Act.put, List.setIfInBounds_toArray, List.set_cons_zero, List.set_cons_succ]
      refine wpAnyH_take (i := 4) (v := ?_) rfl (by kernel_rfl) (by kernel_rfl) (by kernel_rfl) (fun _ _ _ h => h) (Or.inl ⟨by kernel_rfl, ?_⟩) (by assumption) ?_
      rotate_left
      · intro w hSw
        (try dsimp only at hSw)
        go_simp
        first | done | with_reducible rfl
      simp only [List.getElem_toArray, List.getElem_cons_zero, List.getElem_cons_succ, Act.put, List.setIfInBounds_toArray, List.set_cons_zero, List.set_cons_succ]
      refine wpAnyH_take (i := 5) (v := ?_) rfl (by kernel_rfl) (by kernel_rfl) (by kernel_rfl) (fun _ _ _ h => h) (Or.inl ⟨by kernel_rfl, ?_⟩) (by assumption) ?_
      rotate_left
      · intro w hSw
        (try dsimp only at hSw)
        go_simp
        first | done | with_reducible rfl
      simp only [List.getElem_toArray, List.getElem_cons_zero, List.getElem_cons_succ, Act.put, List.setIfInBounds_toArray, List.set_cons_zero, List.set_cons_succ]
      refine wpAnyH_take (i := 6) (v := ?_) rfl (by kernel_rfl) (by kernel_rfl) (by kernel_rfl) (fun _ _ _ h => h) (Or.inl ⟨by kernel_rfl, ?_⟩) (by assumption) ?_
      rotate_left
      · intro w hSw
        (try dsimp only at hSw)
        have z0 : w.cell? ⟨X, k * 3, none⟩ = some (.string xl) := by rw [Lib.cell_of_heap hSw.2.1]; exact Hrc.out.1
        go_simp
        first | done | with_reducible rfl
      simp only [List.getElem_toArray, List.getElem_cons_zero, List.getElem_cons_succ, Act.put, List.setIfInBounds_toArray, List.set_cons_zero, List.set_cons_succ]
      refine wpAnyH_take (i := 7) (v := ?_) rfl (by kernel_rfl) (by kernel_rfl) (by kernel_rfl) (fun _ _ _ h => h) (Or.inl ⟨by kernel_rfl, ?_⟩) (by assumption) ?_
      rotate_left
      · intro w hSw
        (try dsimp only at hSw)
        go_simp
        first | done | with_reducible rfl
      simp only [List.getElem_toArray, List.getElem_cons_zero, List.getElem_cons_succ, Act.put, List.setIfInBounds_toArray, List.set_cons_zero, List.set_cons_succ]
      refine wpAnyH_take (i := 8) (v := ?_) rfl (by kernel_rfl) (by kernel_rfl) (by kernel_rfl) (fun _ _ _ h => h) (Or.inl ⟨by kernel_rfl, ?_⟩) (by assumption) ?_
      rotate_left
      · intro w hSw
        (try dsimp only at hSw)
        go_simp
        first | done | with_reducible rfl
      simp only [List.getElem_toArray, List.getElem_cons_zero, List.getElem_cons_succ, Act.put, List.setIfInBounds_toArray, List.set_cons_zero, List.set_cons_succ]
      refine wpAnyH_take (i := 9) (v := ?_) rfl (by kernel_rfl) (by kernel_rfl) (by kernel_rfl) (fun _ _ _ h => h) (Or.inl ⟨by kernel_rfl, ?_⟩) (by assumption) ?_
      rotate_left
      · intro w hSw
        (try dsimp only at hSw)
        have z0 : w.cell? ⟨Z, 2, none⟩ = some (.slice (some ⟨X, 0, none⟩) 3 3) := by rw [Lib.cell_of_heap hSw.1]; rfl
        go_simp
        first | done | with_reducible rfl
      simp only [List.getElem_toArray, List.getElem_cons_zero, List.getElem_cons_succ, Act.put, List.setIfInBounds_toArray, List.set_cons_zero, List.set_cons_succ]
      refine wpAnyH_take (i := 10) (v := ?_) rfl (by kernel_rfl) (by kernel_rfl) (by kernel_rfl) (fun _ _ _ h => h) (Or.inl ⟨by kernel_rfl, ?_⟩) (by assumption) ?_
      rotate_left
      · intro w hSw
        (try dsimp only at hSw)
        go_simp
        first | done | with_reducible rfl
      simp only [List.getElem_toArray, List.getElem_cons_zero, List.getElem_cons_succ, Act.put, List.setIfInBounds_toArray, List.set_cons_zero, List.set_cons_succ]
      refine wpAnyH_take (i := 11) (v := ?_) rfl (by kernel_rfl) (by kernel_rfl) (by kernel_rfl) (fun _ _ _ h => h) (Or.inl ⟨by kernel_rfl, ?_⟩) (by assumption) ?_
      rotate_left
      · intro w hSw
        (try dsimp only at hSw)
        go_simp
        first | done | with_reducible rfl
      simp only [List.getElem_toArray, List.getElem_cons_zero, List.getElem_cons_succ, Act.put, List.setIfInBounds_toArray, List.set_cons_zero, List.set_cons_succ]
      refine wpAnyH_take (i := 12) (v := ?_) rfl (by kernel_rfl) (by kernel_rfl) (by kernel_rfl) (fun _ _ _ h => h) (Or.inl ⟨by kernel_rfl, ?_⟩) (by assumption) ?_
      rotate_left
      · intro w hSw
        (try dsimp only at hSw)
        go_simp
        first | done | with_reducible rfl
      simp only [List.getElem_toArray, List.getElem_cons_zero, List.getElem_cons_succ, Act.put, List.setIfInBounds_toArray, List.set_cons_zero, List.set_cons_succ]
      refine wpAnyH_take (i := 13) (v := ?_) rfl (by kernel_rfl) (by kernel_rfl) (by kernel_rfl) (fun _ _ _ h => h) (Or.inl ⟨by kernel_rfl, ?_⟩) (by assumption) ?_
      rotate_left
      · intro w hSw
        (try dsimp only at hSw)
        have z0 : w.cell? ⟨X, k * 3 + 2, none⟩ = some (.string xr) := by rw [Lib.cell_of_heap hSw.2.1]; exact Hrc.out.2.2.1
        go_simp
        first | done | with_reducible rfl
      simp only [List.getElem_toArray, List.getElem_cons_zero, List.getElem_cons_succ, Act.put, List.setIfInBounds_toArray, List.set_cons_zero, List.set_cons_succ]
      refine wpAnyH_ready (rs := [14]) (by kernel_rfl) (by simp) ?_
      refine AllReadyH.cons rfl (fun K hK => ?_) AllReadyH.nil
      simp only [List.getElem_toArray, List.getElem_cons_zero, List.getElem_cons_succ]
      go_simp
      (with_reducible refine (leafP_at xl cx xr t Ht HcI.out hl70 hr70 w1.drew hPd).mono ?_)
      rintro e w3 ⟨rfl, hB3⟩
      dsimp only
      have hJ3 := HJ2.out.go hB3
      have HJ3 := Lib.hid hJ3
      have HO3 := Lib.hid (own_below HO2.out hB3)
      refine hK.out _ _ ⟨hJ3.z, hJ3.x, hJ3.y⟩ (fun hHeld => ?_)
      clear hJ3 hB3
      clear hK K
      try simp only [List.getElem_toArray, List.getElem_cons_zero, List.getElem_cons_succ, Act.put, List.setIfInBounds_toArray, List.set_cons_zero, List.set_cons_succ]
      refine wpAnyH_ready (rs := [15]) (by kernel_rfl) (by simp) ?_
      refine AllReadyH.cons rfl (fun K hK => ?_) AllReadyH.nil
      simp only [List.getElem_toArray, List.getElem_cons_zero, List.getElem_cons_succ]
      go_simp
      have hJ4 := HJ3.out.go (bal (Below.refl _ _) (.cells #[.string t] 9))
      have HJ4 := Lib.hid hJ4
      refine hK.out _ _ ⟨hJ4.z, hJ4.x, hJ4.y⟩ (fun hHeld => ?_)
      clear hJ4
      clear hK K
      try simp only [List.getElem_toArray, List.getElem_cons_zero, List.getElem_cons_succ, Act.put, List.setIfInBounds_toArray, List.set_cons_zero, List.set_cons_succ]
      refine wpAnyH_ready (rs := [16]) (by kernel_rfl) (by simp) ?_
      refine AllReadyH.cons rfl (fun K hK => ?_) AllReadyH.nil
      refine step_src (w0 := w) (by rfl) _ _ 51 (by rfl) 9 i0 (.string ⟨#[]⟩) 1 16 Tryz.underlying51 hi0 hz0 hz1 hz2 (by rfl) (by decide) _ k (strV (leafK benchR benchB k)) (by rfl) (HO3.out.alloc _) HJ4.out.be (.slice (some ⟨w3.heap.size, 0, none⟩) 1 1) 1 [.string t] (by rfl) (block_src w3 [.string t] _ _ 1 1 1 rfl) (by simp [Value.oneCell']) (by unfold maxLen; omega) (by omega) ?_
      intro v7 w7 hown7 hB7 hk7
      have hJ7 := HJ4.out.app (HO3.out.alloc _) hk7 hB7
      have HJ7 := Lib.hid hJ7
      have HO7 := Lib.hid hown7
      refine hK.out _ _ ⟨hJ7.z, hJ7.x, hJ7.y⟩ (fun hHeld => ?_)
      clear hJ7 hown7 hB7 hk7
      clear hK K
      try simp only [List.getElem_toArray, List.getElem_cons_zero, List.getElem_cons_succ, Act.put, List.setIfInBounds_toArray, List.set_cons_zero, List.set_cons_succ]
      refine wpAnyH_take (i := 17) (v := ?_) rfl (by kernel_rfl) (by kernel_rfl) (by kernel_rfl) (fun _ _ _ h => h) (Or.inl ⟨by kernel_rfl, ?_⟩) (by assumption) ?_
      rotate_left
      · intro w hSw
        (try dsimp only at hSw)
        go_simp
        first | done | with_reducible rfl
      simp only [List.getElem_toArray, List.getElem_cons_zero, List.getElem_cons_succ, Act.put, List.setIfInBounds_toArray, List.set_cons_zero, List.set_cons_succ]
      refine wpAnyH_done (by kernel_rfl) ?_ _
      dsimp only [NoPanic]
      clear hHeld
      go_wp2
      go_roundw
      case rel => exact ⟨k + 1, by omega, by go_num, HJ7.out, by rw [Hsn.out, strV_snoc']; exact HO7.out⟩
      case measure => simp [intOf]; omega
    · obtain rfl : 3 = k := by omega
      obtain ⟨Lv, lc, hv, hSl⟩ := own_slice Hown.out
      subst hv
      have HSl := Lib.hid hSl
      clear hSl
      go_wp2_with fail
      refine (root_at Lv lc 3 (leafK benchR benchB 3) r 0 wr (leafK_len _ _ _) Hr.out (by decide) HSl.out (leafK_size (by decide) (by unfold I64; decide +kernel)) (by omega)).mono ?_
      rintro e w1 ⟨rfl, hB1⟩
      have hJ1 := HJ.out.go hB1
      have z0 : w1.cell? ⟨Z, 0, none⟩ = some (.string ⟨#[97, 110, 110]⟩) := by rw [Lib.cell_of_heap hJ1.z]; rfl
      have z1 : w1.cell? ⟨Z, 1, none⟩ = some (.int .i64 290) := by rw [Lib.cell_of_heap hJ1.z]; rfl
      have z2 : w1.cell? ⟨Z, 2, none⟩ = some (.slice (some ⟨X, 0, none⟩) 3 3) := by rw [Lib.cell_of_heap hJ1.z]; rfl
      have z3 : w1.cell? ⟨Z, 3, none⟩ = some (.slice (some ⟨Y, 0, none⟩) 3 3) := by rw [Lib.cell_of_heap hJ1.z]; rfl
      have z4 : w1.cell? ⟨Z, 4, none⟩ = some (.int .u64 0) := by rw [Lib.cell_of_heap hJ1.z]; rfl
      have fz : w1.frozen? ⟨Z, 4, none⟩ = false := Lib.frozen_of_heap hJ1.z 4
      have hzw := hJ1.hz
      have hxw := hJ1.hx
      have hyw := hJ1.hy
      have hne1 : X ≠ Z := hne.1
      have hne2 : Y ≠ Z := hne.2
      have hx2 : (w1.setCell ⟨Z, 4, none⟩ (.int .u64 r.toNat)).heap[X]? = some (.cells #[.string ⟨#[98, 97, 115, 105, 99]⟩, .int .i64 10000, .string ⟨#[120]⟩, .string ⟨#[116, 97, 120]⟩, .int .i64 2500, .string ⟨#[116, 97, 120]⟩, .string ⟨#[110, 101, 116]⟩, .int .i64 7500, .string ⟨#[114, 101, 115, 116]⟩] 46 (0, 0)) := (Below.heap_setCell _ _ _ _ (by show X ≠ Z; omega)).trans hJ1.x
      have hy2 : (w1.setCell ⟨Z, 4, none⟩ (.int .u64 r.toNat)).heap[Y]? = some (.cells #[.int .i64 5, .int .i64 6, .int .i64 7] 3 (0, 0)) := (Below.heap_setCell _ _ _ _ (by show Y ≠ Z; omega)).trans hJ1.y
      have hr2 : (w1.setCell ⟨Z, 4, none⟩ (.int .u64 r.toNat)).heap[w.heap.size]? = some (.cells #[.string ⟨#[]⟩, .int .i64 0, .slice none 0 0, .slice none 0 0, .int .u64 0] 27 (0, 0)) := (Below.heap_setCell _ _ _ _ (by show w.heap.size ≠ Z; omega)).trans hJ1.r
      have hz2' : (w1.setCell ⟨Z, 4, none⟩ (.int .u64 r.toNat)).heap[Z]? = some (.cells #[.string ⟨#[97, 110, 110]⟩, .int .i64 290, .slice (some ⟨X, 0, none⟩) 3 3, .slice (some ⟨Y, 0, none⟩) 3 3, .int .u64 r.toNat] 27 (0, 0)) := by rw [setCell_heap hJ1.z]; rfl
      have hb2 : Below w.heap.size w (w1.setCell ⟨Z, 4, none⟩ (.int .u64 r.toNat)) := hJ1.be.setCell (by show w.heap.size ≤ Z; omega) _
      have G := Lib.hid (And.intro hx2 (And.intro hy2 (And.intro hr2 (And.intro hz2' hb2))))
      clear hJ1 hx2 hy2 hr2 hz2' hb2 hB1
      go_upto_region 9 with fail
      obtain ⟨w2, hw2⟩ : ∃ w2, w2 = w1.setCell ⟨Z, 4, none⟩ (.int .u64 r.toNat) := ⟨_, rfl⟩
      rw [← hw2] at G ⊢
      clear z0 z1 z2 z3 z4 fz hw2
      obtain ⟨hx2, hy2, hr2, hz2', hb2⟩ := G.out
      have k0 : w2.cell? ⟨Z, 0, none⟩ = some (.string ⟨#[97, 110, 110]⟩) := by rw [Lib.cell_of_heap hz2']; rfl
      have k1 : w2.cell? ⟨Z, 1, none⟩ = some (.int .i64 290) := by rw [Lib.cell_of_heap hz2']; rfl
      have k2 : w2.cell? ⟨Z, 2, none⟩ = some (.slice (some ⟨X, 0, none⟩) 3 3) := by rw [Lib.cell_of_heap hz2']; rfl
      have k3 : w2.cell? ⟨Z, 3, none⟩ = some (.slice (some ⟨Y, 0, none⟩) 3 3) := by rw [Lib.cell_of_heap hz2']; rfl
      have k4 : w2.cell? ⟨Z, 4, none⟩ = some (.int .u64 r.toNat) := by rw [Lib.cell_of_heap hz2']; rfl
      have r0 : w2.cell? ⟨w.heap.size, 0, none⟩ = some (.string ⟨#[]⟩) := by rw [Lib.cell_of_heap hr2]; rfl
      have r1 : w2.cell? ⟨w.heap.size, 1, none⟩ = some (.int .i64 0) := by rw [Lib.cell_of_heap hr2]; rfl
      have r2 : w2.cell? ⟨w.heap.size, 2, none⟩ = some (.slice none 0 0) := by rw [Lib.cell_of_heap hr2]; rfl
      have r3 : w2.cell? ⟨w.heap.size, 3, none⟩ = some (.slice none 0 0) := by rw [Lib.cell_of_heap hr2]; rfl
      have r4 : w2.cell? ⟨w.heap.size, 4, none⟩ = some (.int .u64 0) := by rw [Lib.cell_of_heap hr2]; rfl
      have f0 : ∀ j, w2.frozen? ⟨w.heap.size, j, none⟩ = false := fun j => Lib.frozen_of_heap hr2 j
      clear hx2 hy2 hr2 hz2' hb2
      go_wp2_with fail
      obtain ⟨hx2, hy2, hr2, hz2', hb2⟩ := G.out
      have ks : ∀ (V : World) (b j : Nat) (u : Value) (cs : Array Value) (T : TypeId), V.heap[b]? = some (.cells cs T (0, 0)) → w.heap.size < b → (V.setCell ⟨w.heap.size, j, none⟩ u).heap[b]? = some (.cells cs T (0, 0)) := fun V b j u cs T h hb => (Below.heap_setCell _ _ _ _ (by show b ≠ w.heap.size; omega)).trans h
      refine bodyPost_ret (v := .agg #[.string ⟨#[97, 110, 110]⟩, .int .i64 290, .slice (some ⟨X, 0, none⟩) 3 3, .slice (some ⟨Y, 0, none⟩) 3 3, .int .u64 r.toNat]) (by simp [results, Tryz.results11, go_sem, r0, r1, r2, r3, r4]) rfl ⟨some ⟨X, 0, none⟩, some ⟨Y, 0, none⟩, rfl, ?_, ?_, ?_⟩
      · exact sl_cells (ks _ _ _ _ _ _ (ks _ _ _ _ _ _ (ks _ _ _ _ _ _ (ks _ _ _ _ _ _ (ks _ _ _ _ _ _ hx2 hxw) hxw) hxw) hxw) hxw) rfl rfl
      · exact sl_cells (ks _ _ _ _ _ _ (ks _ _ _ _ _ _ (ks _ _ _ _ _ _ (ks _ _ _ _ _ _ (ks _ _ _ _ _ _ hy2 hyw) hyw) hyw) hyw) hyw) rfl rfl
      · exact ((((hb2.setCell (Nat.le_refl _) _).setCell (Nat.le_refl _) _).setCell (Nat.le_refl _) _).setCell (Nat.le_refl _) _).setCell (Nat.le_refl _) _
end Go.Proofs.YtfjkmhbipkoefaaGreatDoor
