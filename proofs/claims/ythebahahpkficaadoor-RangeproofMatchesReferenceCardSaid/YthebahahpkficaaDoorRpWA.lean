/- The walk of package rangeproof: Prove. -/
import Derived.Test.YthebahahpkficaaDoorRpW9
import Derived.Laws.OwnMore
namespace Go.Proofs.YthebahahpkficaaDoor
open Go.RowKit
set_option linter.unusedVariables false
/-- The random numbers that have been filled in so far: the first J cells. -/
def NumAt (seed : List UInt8) (n J Bn : Nat) (W : World) : Prop :=
  ∀ i, i < n * 4 → (∃ v : Int, W.cell? ⟨Bn, i, none⟩ = some (.int .i64 v) ∧ (i < J → v = rndI seed ((i / 4 : Nat) : Int) ((i % 4 : Nat) : Int))) ∧ W.frozen? ⟨Bn, i, none⟩ = false
theorem NumAt.go {seed : List UInt8} {n J Bn : Nat} {W W' : World} (h : NumAt seed n J Bn W) (hB : Bn < W.heap.size) (hb : Below W.heap.size W W') : NumAt seed n J Bn W' := fun i hi => by
  obtain ⟨⟨v, hv, hr⟩, hf⟩ := h i hi
  exact ⟨⟨v, (hb.cell (p := ⟨Bn, i, none⟩) hB).trans hv, hr⟩, (hb.frozen (p := ⟨Bn, i, none⟩) hB).trans hf⟩
theorem NumAt.set {seed : List UInt8} {n j k Bn : Nat} {W : World} (h : NumAt seed n (j * 4 + k) Bn W) (hk : k < 4) (hj : j < n) : NumAt seed n (j * 4 + (k + 1)) Bn (W.setCell ⟨Bn, j * 4 + k, none⟩ (.int .i64 (rndI seed j k))) := fun i hi => by
  obtain ⟨⟨v, hv, hr⟩, hf⟩ := h i hi
  refine ⟨?_, by rw [World.frozen?_setCell]; exact hf⟩
  by_cases he : i = j * 4 + k
  · subst he
    refine ⟨_, World.cell?_setCell_same' _ _ _ (by rw [hv]; rfl), fun _ => ?_⟩
    rw [show (j * 4 + k) / 4 = j by omega, show (j * 4 + k) % 4 = k by omega]
  · refine ⟨v, ?_, fun hlt => hr (by omega)⟩
    have h2 : (⟨Bn, j * 4 + k, none⟩ : Addr) ≠ ⟨Bn, i, none⟩ := by intro e; injection e with _ e; exact he e.symm
    exact (World.cell?_setCell_other W _ _ _ h2).trans hv
/-- All numbers are there; the first one is the rest. -/
def NumAll (seed : List UInt8) (blind : Int) (n Bn : Nat) (W : World) : Prop :=
  Bn < W.heap.size ∧ ∀ j, j < n → W.cell? ⟨Bn, j * 4, none⟩ = some (.int .i64 (blindAt seed blind n j)) ∧ W.cell? ⟨Bn, j * 4 + 1, none⟩ = some (.int .i64 (rndI seed j 1)) ∧ W.cell? ⟨Bn, j * 4 + 2, none⟩ = some (.int .i64 (rndI seed j 2)) ∧ W.cell? ⟨Bn, j * 4 + 3, none⟩ = some (.int .i64 (rndI seed j 3))
theorem NumAll.go {seed : List UInt8} {blind : Int} {n Bn : Nat} {W W' : World} (h : NumAll seed blind n Bn W) (hb : Below W.heap.size W W') : NumAll seed blind n Bn W' :=
  ⟨Nat.lt_of_lt_of_le h.1 hb.size, fun j hj => by
    obtain ⟨h0, h1, h2, h3⟩ := h.2 j hj
    exact ⟨(hb.cell (p := ⟨Bn, j * 4, none⟩) h.1).trans h0, (hb.cell (p := ⟨Bn, j * 4 + 1, none⟩) h.1).trans h1, (hb.cell (p := ⟨Bn, j * 4 + 2, none⟩) h.1).trans h2, (hb.cell (p := ⟨Bn, j * 4 + 3, none⟩) h.1).trans h3⟩⟩
theorem NumAt.all {seed : List UInt8} {blind : Int} {n Bn : Nat} {W : World} (h : NumAt seed n (n * 4) Bn W) (hB : Bn < W.heap.size) (hn : 0 < n) : NumAll seed blind n Bn (W.setCell ⟨Bn, 0, none⟩ (.int .i64 (restI seed blind n))) := by
  refine ⟨by simpa [World.setCell] using hB, fun j hj => ?_⟩
  have get : ∀ i, i < n * 4 → i ≠ 0 → (W.setCell ⟨Bn, 0, none⟩ (.int .i64 (restI seed blind n))).cell? ⟨Bn, i, none⟩ = some (.int .i64 (rndI seed ((i / 4 : Nat) : Int) ((i % 4 : Nat) : Int))) := by
    intro i hi h0
    obtain ⟨⟨v, hv, hr⟩, _⟩ := h i hi
    have h2 : (⟨Bn, 0, none⟩ : Addr) ≠ ⟨Bn, i, none⟩ := by intro e; injection e with _ e; exact h0 e.symm
    rw [World.cell?_setCell_other W _ _ _ h2, hv, hr hi]
  refine ⟨?_, ?_, ?_, ?_⟩
  · by_cases hj0 : j = 0
    · subst hj0
      obtain ⟨⟨v, hv, _⟩, _⟩ := h 0 (by omega)
      rw [Nat.zero_mul, World.cell?_setCell_same' _ _ _ (by rw [hv]; rfl)]
      rfl
    · rw [get (j * 4) (by omega) (by omega), show j * 4 / 4 = j by omega, show j * 4 % 4 = 0 by omega]
      unfold blindAt
      rw [if_neg hj0]
      rfl
  · rw [get (j * 4 + 1) (by omega) (by omega), show (j * 4 + 1) / 4 = j by omega, show (j * 4 + 1) % 4 = 1 by omega]; rfl
  · rw [get (j * 4 + 2) (by omega) (by omega), show (j * 4 + 2) / 4 = j by omega, show (j * 4 + 2) % 4 = 2 by omega]; rfl
  · rw [get (j * 4 + 3) (by omega) (by omega), show (j * 4 + 3) / 4 = j by omega, show (j * 4 + 3) % 4 = 3 by omega]; rfl
theorem info_num : (Tryd.prog.info? 52).map (fun i => (i.zero, i.size, i.bytes)) = some (some (.agg #[.int .i64 0, .int .i64 0, .int .i64 0, .int .i64 0]), 4, 32) := by kernel_rfl
theorem info_bp : (Tryd.prog.info? 25).map (fun i => (i.zero, i.size, i.bytes)) = some (some (.agg #[.int .i64 0, .int .i64 0, .int .i64 0, .int .i64 0, .int .i64 0, .int .i64 0, .int .i64 0]), 7, 56) := by kernel_rfl
theorem numAll_block {seed : List UInt8} {blind : Int} {n Bn : Nat} {W W' : World} (h : NumAll seed blind n Bn W) (hb : W'.heap[Bn]? = W.heap[Bn]?) (hs : W.heap.size ≤ W'.heap.size) : NumAll seed blind n Bn W' :=
  ⟨Nat.lt_of_lt_of_le h.1 hs, fun j hj => by
    obtain ⟨h0, h1, h2, h3⟩ := h.2 j hj
    exact ⟨(World.cell?_of_block hb).trans h0, (World.cell?_of_block hb).trans h1, (World.cell?_of_block hb).trans h2, (World.cell?_of_block hb).trans h3⟩⟩
theorem take_prove (v : Nat) (seed : List UInt8) (blind : Int) (n q : Nat) (h : q < n) : (proveL v seed blind n).take (q + 1) = (proveL v seed blind n).take q ++ [proofAt v seed blind n q] := by
  rw [List.take_succ_eq_append_getElem (by rw [proveL_len]; exact h)]
  simp [proveL]
theorem own_sl {W : World} {base : Nat} {e : TypeId} {size n : Nat} {v : Value} {xs : List Value} (h : W.ownsRow base e size v n xs) : ∃ A cap, v = .slice A n cap ∧ (n ≤ cap ∧ cap ≤ maxLen ∧ Sl W W.heap.size size A n xs) := by
  obtain ⟨hl, hx⟩ := h
  rcases hx with ⟨rfl, rfl⟩ | ⟨g, cap, cur, rfl, hg, hh, hn, hcap, hsz, htake⟩
  · exact ⟨none, 0, rfl, Nat.le_refl _, Nat.zero_le _, hl, fun h => absurd h (Nat.lt_irrefl 0)⟩
  · refine ⟨_, cap, rfl, hn, hcap, hl, fun _ => ⟨g, 0, rfl, (Array.getElem?_eq_some_iff.1 hh).1, ?_⟩⟩
    intro j u hu
    rw [← htake, List.getElem?_take] at hu
    split at hu
    · rw [Nat.zero_add]
      simp only [World.cell?, hh]
      simpa using hu
    · cases hu
def ProveEnd (w : World) (n : Nat) (l : List BP) (r : Ending) (w' : World) : Prop :=
  ∃ A cap, r = .returned (.tuple #[.slice A n cap, .int .i64 0]) ∧ n ≤ cap ∧ cap ≤ maxLen ∧ Sl w' w'.heap.size 7 A n (bpsC l) ∧ Below w.heap.size w w'
set_option maxHeartbeats 8000000 in
set_option maxRecDepth 100000 in
theorem prove_ok (v blind : Int) (n : Nat) (seed : ByteArray) (w : World) (hT : PTab w) (hG : GTab w) (hn1 : 1 ≤ n) (hn2 : n ≤ 28) (hv0 : 0 ≤ v) (hv1 : v < ((2 ^ n : Nat) : Int)) (hb0 : 0 ≤ blind) (hb1 : blind < 1073741789) (hs : seed.size ≤ 60) :
    Calls Tryd.prog 10 #[.int .i64 v, .int .i64 blind, .int .i64 (n : Int), .string seed] w (ProveEnd w n (proveL v.toNat seed.data.toList blind n)) := by
  obtain ⟨E, hE⟩ : ∃ E : Int, E = ((2 ^ n : Nat) : Int) := ⟨_, rfl⟩
  rw [← hE] at hv1
  have hEb : 0 ≤ E ∧ E ≤ 268435456 := by
    have h28 : 2 ^ n ≤ 268435456 := (Nat.pow_le_pow_right (by omega) (by omega) : 2 ^ n ≤ 2 ^ 28)
    rw [hE]
    exact ⟨Int.natCast_nonneg _, Int.ofNat_le.2 h28⟩
  have hsh : IntKind.i64.wrap ((2 : Int) ^ n) = E := by
    have e2 : (2 : Int) ^ n = E := by rw [hE, Int.natCast_pow]; rfl
    rw [e2]; exact IntWalk.i64_in _ (by omega)
  have HT := Lib.hid hT
  have HG := Lib.hid hG
  have HE := Lib.hid hE
  clear hT hG hE
  obtain ⟨i0, hi0, hz0, hz1, hz2⟩ := info_parts info_num
  have hmk := run_make (P := Tryd.prog) w 50 52 i0 _ Tryd.underlying50 hi0 hz0 .i64 .i64 n n (by omega) (Int.le_refl _) (by rw [hz2]; omega) (by omega)
  rw [Int.toNat_natCast, hz1] at hmk
  obtain ⟨w1, hw1⟩ : ∃ w1, w1 = w.alloc (.cells (madeCells (Value.agg #[.int .i64 0, .int .i64 0, .int .i64 0, .int .i64 0]).cells (n * 4)) 52) := ⟨_, rfl⟩
  rw [← hw1] at hmk
  have hB1 : Below w.heap.size w w1 := by rw [hw1]; exact bal (Below.refl _ _) _
  have hs1 : w1.heap.size = w.heap.size + 1 := by rw [hw1]; simp
  have hN1 : NumAt seed.data.toList n 0 w.heap.size w1 := by
    intro i hi
    have hbk : w1.heap[w.heap.size]? = some (.cells (madeCells (Value.agg #[.int .i64 0, .int .i64 0, .int .i64 0, .int .i64 0]).cells (n * 4)) 52) := by rw [hw1]; exact World.alloc_heap_new _ _
    refine ⟨⟨0, ?_, fun h => absurd h (Nat.not_lt_zero i)⟩, by simp [World.frozen?, hbk]⟩
    simp only [World.cell?, hbk]
    simp [madeCells, hi, Value.cells]
    rcases (show i % 4 = 0 ∨ i % 4 = 1 ∨ i % 4 = 2 ∨ i % 4 = 3 by omega) with h | h | h | h <;> rw [h] <;> rfl
  have HN1 := Lib.hid hN1
  have HS1 := Lib.hid hs1
  have hl1 : w.heap.size < w1.heap.size := by omega
  clear hw1 hN1 hs1
  go_enter Tryd.func10, Tryd.ntmps10
  go_wp2_with fail
  clear hmk hsh
  go_loopw [11, 42] (fun rs i wr => ∃ j : Nat, j ≤ n ∧ i = .int .i64 (j : Int) ∧ rs = .int .i64 (restI seed.data.toList blind j) ∧ Hid (NumAt seed.data.toList n (j * 4) w.heap.size wr) ∧ Below w.heap.size w wr ∧ w.heap.size < wr.heap.size) (fun _ i _ => n - (intOf i).toNat)
  case atStart => exact ⟨0, by omega, rfl, rfl, by rw [Nat.zero_mul]; exact HN1, hB1, hl1⟩
  case round =>
    obtain ⟨j, hj, rfl, rfl, HN, hB, hlr⟩ := hrel
    obtain ⟨wo, rfl⟩ : ∃ wo : World, wo = wr := ⟨_, rfl⟩
    have hrb := restI_bd seed.data.toList blind hb0 hb1 j
    obtain ⟨rs, hrs⟩ : ∃ rs, restI seed.data.toList blind j = rs := ⟨_, rfl⟩
    rw [hrs] at hrb ⊢
    have HRS := Lib.hid hrs
    clear hrs
    by_cases hlt : j < n
    · go_wp2_with fail
      go_loopw [45] (fun i wr => ∃ k : Nat, k ≤ 4 ∧ i = .int .i64 (k : Int) ∧ Hid (NumAt seed.data.toList n (j * 4 + k) w.heap.size wr) ∧ Below w.heap.size w wr ∧ w.heap.size < wr.heap.size) (fun i _ => 4 - (intOf i).toNat)
      case atStart => exact ⟨0, by omega, rfl, HN, hB, hlr⟩
      case round =>
        clear HN hB hlr
        obtain ⟨k, hk, rfl, HN, hB, hlr⟩ := hrel
        by_cases hk4 : k < 4
        · obtain ⟨x, hx⟩ : ∃ x, rndI seed.data.toList (j : Int) (k : Int) = x := ⟨_, rfl⟩
          have HX := Lib.hid hx
          have hNd : NumAt seed.data.toList n (j * 4 + k) w.heap.size wr.drew := HN.out
          have HTd : PTab wr.drew := HT.out.go (below_drewN hB 1)
          have HN2 := Lib.hid hNd
          clear hx hNd HN
          have b1 : (0 : Int) ≤ (j : Int) := Int.natCast_nonneg _
          have b2 : (j : Int) < (n : Int) := by omega
          have b3 : (0 : Int) ≤ (k : Int) := Int.natCast_nonneg _
          have b4 : (k : Int) < 4 := by omega
          have hli : j * 4 + k < n * 4 := by omega
          have hI1 : I64 (j : Int) := ⟨by omega, by omega⟩
          have hI2 : I64 (k : Int) := ⟨by omega, by omega⟩
          have HI := Lib.hid (And.intro hI1 hI2)
          clear hI1 hI2
          go_wp2_with fail
          go_region_held3 (fun w' => True)
            (trivial)
            (first
              | (go_at_call 23; (with_reducible refine (random_any seed (j : Int) (k : Int) x HX wr.drew HTd (by omega) HI.out.1 HI.out.2).mono ?_); rintro e wp ⟨rfl, hbp⟩; have hNp := Lib.hid (HN2.out.go hlr hbp); have hfp := (hNp.out _ hli).2; obtain ⟨v0, hv0, _⟩ := (hNp.out _ hli).1))
          have hBp := bgo hB (below_undrew hbp)
          have hlp := hbp.size
          have hlp2 : w.heap.size < wp.heap.size := Nat.lt_of_lt_of_le hlr hlp
          obtain ⟨w5, hw5⟩ : ∃ w5, w5 = wp.setCell ⟨w.heap.size, j * 4 + k, none⟩ (.int .i64 x) := ⟨_, rfl⟩
          rw [← hw5]
          have hN5 : NumAt seed.data.toList n (j * 4 + (k + 1)) w.heap.size w5 := by rw [hw5, ← HX.out]; exact hNp.out.set hk4 hlt
          have hB5 : Below w.heap.size w w5 := by rw [hw5]; exact hBp.setCell (Nat.le_refl _) _
          have hl5 : w.heap.size < w5.heap.size := by rw [hw5]; simpa [World.setCell] using hlp2
          have HN5 := Lib.hid hN5
          clear hw5 hN5 hbp hlp hlp2 hBp hB hlr hNp hfp hv0 HN2 HTd
          go_wp2
          go_roundw
          case rel => exact ⟨k + 1, by omega, by go_num, HN5, hB5, hl5⟩
          case measure => simp [intOf]; omega
        · obtain rfl : k = 4 := by omega
          have HN' : Hid (NumAt seed.data.toList n ((j + 1) * 4) w.heap.size wr) := Lib.hid (by rw [show (j + 1) * 4 = j * 4 + 4 by omega]; exact HN.out)
          clear HN
          by_cases hj0 : j = 0
          · subst hj0
            have hre : rs = restI seed.data.toList blind (0 + 1) := by rw [← HRS.out]; rfl
            have HRE := Lib.hid hre
            clear hre
            go_wp2
            go_roundw
            case rel => exact ⟨0 + 1, by omega, by go_num, by rw [← HRE.out], HN', hB, hlr⟩
            case measure => simp [intOf]; omega
          · have hjp : (0 : Int) < (j : Int) := by omega
            have hd : decide ((0 : Int) < (j : Int)) = true := by simp; omega
            obtain ⟨⟨y, hy, hyr⟩, _⟩ := HN'.out (j * 4) (by omega)
            have hye : y = rndI seed.data.toList (j : Int) 0 := by
              have := hyr (by omega)
              rw [show j * 4 / 4 = j by omega, show j * 4 % 4 = 0 by omega] at this
              exact this
            have hyb : 0 ≤ y ∧ y < 1073741789 := by rw [hye]; exact rndI_bd _ _ _
            obtain ⟨F, hF⟩ : ∃ F : Int, F = ((2 ^ j : Nat) : Int) := ⟨_, rfl⟩
            have hFb : 0 ≤ F ∧ F ≤ 268435456 := by
              have h28 : 2 ^ j ≤ 268435456 := (Nat.pow_le_pow_right (by omega) (by omega) : 2 ^ j ≤ 2 ^ 28)
              rw [hF]
              exact ⟨Int.natCast_nonneg _, Int.ofNat_le.2 h28⟩
            have hsh : IntKind.i64.wrap ((2 : Int) ^ j) = F := by
              have e2 : (2 : Int) ^ j = F := by rw [hF, Int.natCast_pow]; rfl
              rw [e2]; exact IntWalk.i64_in _ (by omega)
            have hmul : 0 ≤ y * F ∧ y * F ≤ 288230376151711744 := by
              refine ⟨Int.mul_nonneg hyb.1 hFb.1, ?_⟩
              have : y * F ≤ 1073741824 * 268435456 := Int.mul_le_mul (by omega) hFb.2 hFb.1 (by omega)
              omega
            have hre : (rs - y * F) % 1073741789 = restI seed.data.toList blind (j + 1) := by
              rw [restI, if_neg hj0, HRS.out, ← hye, ← hF]
              omega
            have HRE := Lib.hid hre
            have hw1 : IntKind.i64.wrap (y * F) = y * F := IntWalk.i64_in _ (by omega)
            have hw2 : IntKind.i64.wrap (rs - y * F % 1073741789) = rs - y * F % 1073741789 := IntWalk.i64_in _ (by omega)
            have htm : (y * F).tmod 1073741789 = y * F % 1073741789 := Int.tmod_eq_emod_of_nonneg hmul.1
            have b1 : (0 : Int) ≤ (j : Int) := Int.natCast_nonneg _
            have b2 : (j : Int) < (n : Int) := by omega
            clear hye hyr hre hF
            go_wp2_with fail
            go_region_held3 (fun w' => w'.cell? ⟨w.heap.size, j * 4, none⟩ = some (.int .i64 y))
              (go_keep)
              (first
                | (go_at_call 24; (with_reducible refine (reduce_any (rs - y * F % 1073741789) wr.drew (by omega) (by omega)).mono ?_); rintro e wp ⟨rfl, rfl⟩))
            clear hw1 hw2 htm hsh
            go_wp2
            go_roundw
            case rel => exact ⟨j + 1, by omega, by go_num, by rw [HRE.out], HN', hB.drew, hlr⟩
            case measure => simp [intOf]; omega
    · obtain rfl : j = n := by omega
      have hN9 : NumAll seed.data.toList blind j w.heap.size (wo.setCell ⟨w.heap.size, 0, none⟩ (.int .i64 rs)) := by rw [← HRS.out]; exact HN.out.all hlr (by omega)
      obtain ⟨⟨vv0, hvv0, _⟩, hf0⟩ := HN.out 0 (by omega)
      obtain ⟨w3, hw3⟩ : ∃ w3, w3 = wo.setCell ⟨w.heap.size, 0, none⟩ (.int .i64 rs) := ⟨_, rfl⟩
      rw [← hw3] at hN9
      have hB3 : Below w.heap.size w w3 := by rw [hw3]; exact hB.setCell (Nat.le_refl _) _
      have HN9 := Lib.hid hN9
      have HW3 := Lib.hid hw3
      have b1 : (0 : Int) < (j : Int) := by omega
      have b2 : 0 < j := by omega
      clear hN9 hw3 HN
      obtain ⟨k0, hk0, hy0, hy1, hy2⟩ := info_parts info_bp
      go_wp2_with fail
      rw [← HW3.out]
      go_loopw [14, 78] (fun s14 i wr => ∃ q : Nat, q ≤ j ∧ i = .int .i64 (q : Int) ∧ Hid (wr.ownsRow w3.heap.size 25 7 s14 q (bpsC ((proveL v.toNat seed.data.toList blind j).take q))) ∧ Below w3.heap.size w3 wr) (fun _ i _ => j - (intOf i).toNat)
      case atStart => exact ⟨0, by omega, rfl, Lib.hid ⟨rfl, .inl ⟨rfl, rfl⟩⟩, Below.refl _ _⟩
      case round =>
        obtain ⟨q, hq', rfl, HO, hBq⟩ := hrel
        by_cases hq : q < j
        · have hTK := take_prove v.toNat seed.data.toList blind j q hq
          obtain ⟨pp, hpp0⟩ : ∃ pp, proofAt v.toNat seed.data.toList blind j q = pp := ⟨_, rfl⟩
          rw [hpp0] at hTK
          have HTK := Lib.hid hTK
          have HPP0 := Lib.hid hpp0
          obtain ⟨xb, hxb⟩ : ∃ x, blindAt seed.data.toList blind j q = x := ⟨_, rfl⟩
          obtain ⟨xk, hxk⟩ : ∃ x, rndI seed.data.toList (q : Int) 1 = x := ⟨_, rfl⟩
          obtain ⟨xe, hxe⟩ : ∃ x, rndI seed.data.toList (q : Int) 2 = x := ⟨_, rfl⟩
          obtain ⟨xz, hxz⟩ : ∃ x, rndI seed.data.toList (q : Int) 3 = x := ⟨_, rfl⟩
          have XB : Hid ((0 ≤ xb ∧ xb < 1073741789) ∧ (0 ≤ xk ∧ xk < 1073741789) ∧ (0 ≤ xe ∧ xe < 1073741789) ∧ (0 ≤ xz ∧ xz < 1073741789)) := Lib.hid ⟨by rw [← hxb]; exact blindAt_bd _ _ hb0 hb1 _ _, by rw [← hxk]; exact rndI_bd _ _ _, by rw [← hxe]; exact rndI_bd _ _ _, by rw [← hxz]; exact rndI_bd _ _ _⟩
          have XB2 := Lib.hid (And.intro hxb (And.intro hxk (And.intro hxe hxz)))
          have hNr : NumAll seed.data.toList blind j w.heap.size wr := HN9.out.go hBq
          obtain ⟨m0, m1, m2, m3⟩ := hNr.2 q hq
          rw [hxb] at m0
          rw [hxk] at m1
          rw [hxe] at m2
          rw [hxz] at m3
          have HNd : Hid (NumAll seed.data.toList blind j w.heap.size wr.drew) := Lib.hid hNr
          have HTd : PTab wr.drew := HT.out.go (below_drewN (bgo hB3 hBq) 1)
          have HGd : GTab wr.drew := HG.out.go (below_drewN (bgo hB3 hBq) 1)
          have c1 : (0 : Int) ≤ (q : Int) := Int.natCast_nonneg _
          have c2 : (q : Int) < (j : Int) := by omega
          have hml : q + 1 ≤ maxLen := by unfold maxLen; omega
          have hmb : (q + 1) * 56 ≤ 140737488355328 := by omega
          have hw3l : w.heap.size < w3.heap.size := HN9.out.1
          obtain ⟨qv, hqv⟩ : ∃ qv : Int, v / (2 : Int) ^ q = qv := ⟨_, rfl⟩
          have hqv2 : qv = ((v.toNat / 2 ^ q : Nat) : Int) := by
            rw [← hqv, Int.natCast_ediv, Int.toNat_of_nonneg hv0, Int.natCast_pow]; rfl
          have hqb : v.toNat / 2 ^ q < 9223372036854775808 := by
            have := Nat.div_le_self v.toNat (2 ^ q)
            omega
          have HQV := Lib.hid hqv2
          have HQB := Lib.hid hqb
          have hshr := hqv
          clear hTK hpp0 hxb hxk hxe hxz hqv hqv2 hqb hNr
          rcases (show v.toNat / 2 ^ q % 2 = 0 ∨ v.toNat / 2 ^ q % 2 = 1 by omega) with hbv | hbv
          · have hbit : Go.bits .and .i64 qv 1 = 0 := by rw [HQV.out, bit_and _ HQB.out, hbv]; rfl
            have hpp : bit0P xb xk xe xz = pp := by
              rw [← HPP0.out]
              unfold proofAt bitP
              rw [hbv, XB2.out.1, XB2.out.2.1, XB2.out.2.2.1, XB2.out.2.2.2]
              rfl
            have HPP := Lib.hid hpp
            have HBV := Lib.hid hbv
            clear hpp hbv
            go_wp2_with fail
            go_region_held3 (fun w' => w'.cell? ⟨w.heap.size, q * 4, none⟩ = some (.int .i64 xb) ∧ w'.cell? ⟨w.heap.size, q * 4 + 1, none⟩ = some (.int .i64 xk) ∧ w'.cell? ⟨w.heap.size, q * 4 + 2, none⟩ = some (.int .i64 xe) ∧ w'.cell? ⟨w.heap.size, q * 4 + 3, none⟩ = some (.int .i64 xz))
              (go_keep)
              (first
              | (go_at_call 25; (with_reducible refine (proveBit_0 xb xk xe xz pp HPP wr.drew HTd HGd XB.out.1 XB.out.2.1 XB.out.2.2.1 XB.out.2.2.2).mono ?_); rintro e wp ⟨rfl, hbp⟩; have hNp := HNd.out.go hbp; have np0 := (hNp.2 q hq).1; have np1 := (hNp.2 q hq).2.1; have np2 := (hNp.2 q hq).2.2.1; have np3 := (hNp.2 q hq).2.2.2; rw [XB2.out.1] at np0; rw [XB2.out.2.1] at np1; rw [XB2.out.2.2.1] at np2; rw [XB2.out.2.2.2] at np3; have hgp := hNp.1; unfold bpVal)
              | (refine step_append_lies _ (by rfl) _ _ _ (by rfl) w3.heap.size 25 k0 _ 7 56 Tryd.underlying22 hk0 hy0 hy1 hy2 (by rfl) (by decide) u14 q (bpsC ((proveL v.toNat seed.data.toList blind j).take q)) (by rfl) ((own_below (w := wr.drew) HO.out hbp).alloc _)
                  ⟨wp.heap.size, 0, none⟩ 1 1 (bpC pp) (by rfl) (by rfl) (World.news_of_block (cs := (bpC pp).toArray) (t := 25) (fr := (0, 0)) (heap_alloc_new wp _)) (by simp [bpC, Value.oneCell'])
                  Nat.one_pos hml hmb (Nat.le_trans (Nat.le_trans hBq.size hbp.size) (by simp)) (wp.heap.size + 1) (by simp) ?_; intro gg cap2 w8 hown8 hgrow hat hlt8
                 have hN8 : NumAll seed.data.toList blind j w.heap.size w8 := numAll_block hNp ((hgrow.block w.heap.size (by simp; omega) (fun e => by have := (HO.out.lt _ e.symm).1; omega)).trans (Below.heap_alloc _ _ _ hgp)) (Nat.le_trans (by simp) hgrow.size)
                 have nq0 := (hN8.2 q hq).1; have nq1 := (hN8.2 q hq).2.1; have nq2 := (hN8.2 q hq).2.2.1; have nq3 := (hN8.2 q hq).2.2.2; rw [XB2.out.1] at nq0; rw [XB2.out.2.1] at nq1; rw [XB2.out.2.2.1] at nq2; rw [XB2.out.2.2.2] at nq3))
            have hB8 : Below w3.heap.size w3 w8 := ((hBq.trans (below_undrew (hbp.mono hBq.size))).alloc (Nat.le_trans hBq.size hbp.size) _).grown hgrow (Nat.le_trans (Nat.le_trans hBq.size hbp.size) (by simp)) (fun k hk => (HO.out.lt k hk).1)
            have HO8 := Lib.hid hown8
            clear hown8 hgrow hat hN8 nq0 nq1 nq2 nq3 np0 np1 np2 np3 hbit hNp hbp m0 m1 m2 m3 hshr
            go_wp2
            go_roundw
            case rel => exact ⟨q + 1, by omega, by go_num, by rw [HTK.out, bpsC_snoc]; exact HO8.out, hB8⟩
            case measure => simp [intOf]; omega
          · have hbit : Go.bits .and .i64 qv 1 = 1 := by rw [HQV.out, bit_and _ HQB.out, hbv]; rfl
            have hpp : bit1P xb xk xe xz = pp := by
              rw [← HPP0.out]
              unfold proofAt bitP
              rw [hbv, XB2.out.1, XB2.out.2.1, XB2.out.2.2.1, XB2.out.2.2.2]
              rfl
            have HPP := Lib.hid hpp
            have HBV := Lib.hid hbv
            clear hpp hbv
            go_wp2_with fail
            go_region_held3 (fun w' => w'.cell? ⟨w.heap.size, q * 4, none⟩ = some (.int .i64 xb) ∧ w'.cell? ⟨w.heap.size, q * 4 + 1, none⟩ = some (.int .i64 xk) ∧ w'.cell? ⟨w.heap.size, q * 4 + 2, none⟩ = some (.int .i64 xe) ∧ w'.cell? ⟨w.heap.size, q * 4 + 3, none⟩ = some (.int .i64 xz))
              (go_keep)
              (first
              | (go_at_call 25; (with_reducible refine (proveBit_1 xb xk xe xz pp HPP wr.drew HTd HGd XB.out.1 XB.out.2.1 XB.out.2.2.1 XB.out.2.2.2).mono ?_); rintro e wp ⟨rfl, hbp⟩; have hNp := HNd.out.go hbp; have np0 := (hNp.2 q hq).1; have np1 := (hNp.2 q hq).2.1; have np2 := (hNp.2 q hq).2.2.1; have np3 := (hNp.2 q hq).2.2.2; rw [XB2.out.1] at np0; rw [XB2.out.2.1] at np1; rw [XB2.out.2.2.1] at np2; rw [XB2.out.2.2.2] at np3; have hgp := hNp.1; unfold bpVal)
              | (refine step_append_lies _ (by rfl) _ _ _ (by rfl) w3.heap.size 25 k0 _ 7 56 Tryd.underlying22 hk0 hy0 hy1 hy2 (by rfl) (by decide) u14 q (bpsC ((proveL v.toNat seed.data.toList blind j).take q)) (by rfl) ((own_below (w := wr.drew) HO.out hbp).alloc _)
                  ⟨wp.heap.size, 0, none⟩ 1 1 (bpC pp) (by rfl) (by rfl) (World.news_of_block (cs := (bpC pp).toArray) (t := 25) (fr := (0, 0)) (heap_alloc_new wp _)) (by simp [bpC, Value.oneCell'])
                  Nat.one_pos hml hmb (Nat.le_trans (Nat.le_trans hBq.size hbp.size) (by simp)) (wp.heap.size + 1) (by simp) ?_; intro gg cap2 w8 hown8 hgrow hat hlt8
                 have hN8 : NumAll seed.data.toList blind j w.heap.size w8 := numAll_block hNp ((hgrow.block w.heap.size (by simp; omega) (fun e => by have := (HO.out.lt _ e.symm).1; omega)).trans (Below.heap_alloc _ _ _ hgp)) (Nat.le_trans (by simp) hgrow.size)
                 have nq0 := (hN8.2 q hq).1; have nq1 := (hN8.2 q hq).2.1; have nq2 := (hN8.2 q hq).2.2.1; have nq3 := (hN8.2 q hq).2.2.2; rw [XB2.out.1] at nq0; rw [XB2.out.2.1] at nq1; rw [XB2.out.2.2.1] at nq2; rw [XB2.out.2.2.2] at nq3))
            have hB8 : Below w3.heap.size w3 w8 := ((hBq.trans (below_undrew (hbp.mono hBq.size))).alloc (Nat.le_trans hBq.size hbp.size) _).grown hgrow (Nat.le_trans (Nat.le_trans hBq.size hbp.size) (by simp)) (fun k hk => (HO.out.lt k hk).1)
            have HO8 := Lib.hid hown8
            clear hown8 hgrow hat hN8 nq0 nq1 nq2 nq3 np0 np1 np2 np3 hbit hNp hbp m0 m1 m2 m3 hshr
            go_wp2
            go_roundw
            case rel => exact ⟨q + 1, by omega, by go_num, by rw [HTK.out, bpsC_snoc]; exact HO8.out, hB8⟩
            case measure => simp [intOf]; omega
        · obtain rfl : q = j := by omega
          have HO' : Hid (wr.ownsRow w3.heap.size 25 7 u14 q (bpsC (proveL v.toNat seed.data.toList blind q))) := Lib.hid (by
            have := HO.out
            rwa [List.take_of_length_le (by rw [proveL_len]; exact Nat.le_refl _)] at this)
          obtain ⟨A9, cap9, hv9, hS9⟩ := own_sl HO'.out
          subst hv9
          have HS9 := Lib.hid hS9
          clear HO HO' hS9
          go_wp2
          go_ret2
          exact ⟨_, _, rfl, HS9.out.1, HS9.out.2.1, HS9.out.2.2, bgo hB3 hBq⟩
end Go.Proofs.YthebahahpkficaaDoor
