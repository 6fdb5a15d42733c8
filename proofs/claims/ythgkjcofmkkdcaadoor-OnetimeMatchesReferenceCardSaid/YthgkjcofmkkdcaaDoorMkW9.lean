/- The walks of package merkle, ninth part: Collision. -/
import Derived.Test.YthgkjcofmkkdcaaDoorMkW8
import Derived.WalkMore
namespace Go.Proofs.YthgkjcofmkkdcaaDoor
open Go.RowKit Go.Shelf
set_option linter.unusedVariables false
attribute [local go_sem] Oper.semAt_some
abbrev Forks := List (UInt64 × Bool)
def collF : List ByteArray → List ByteArray → Option (ByteArray × ByteArray)
  | x :: xs, y :: ys => if x = y then collF xs ys else if Dig.sum x.data.toList = Dig.sum y.data.toList then some (x, y) else collF xs ys
  | _, _ => none
def collR : Option (ByteArray × ByteArray) → ByteArray × ByteArray × Bool
  | none => (⟨#[]⟩, ⟨#[]⟩, false)
  | some (x, y) => (x, y, true)
def collO (n i : Int) (a : ByteArray) (p : Forks) (b : ByteArray) (q : Forks) : Option (ByteArray × ByteArray) :=
  if properB n i p = true ∧ properB n i q = true ∧ Mk.climbD (Mk.leafD a.data.toList) p = Mk.climbD (Mk.leafD b.data.toList) q then collF (climbS a p) (climbS b q) else none
def collT (o : Option (ByteArray × ByteArray)) : Value := .tuple #[.string (collR o).1, .string (collR o).2.1, .bool (collR o).2.2]
/-- The loop of Collision between two rounds, and after its break. -/
def CollJ (w : World) (B l Bx By : Nat) (r : Loop) (A A' : Option Addr) (n c c' : Nat) (ss tt : List ByteArray) (k : Nat) (W : World) : Prop :=
  W.heap[l]? = some (Rng.readyOf r) ∧ W.heap[Bx + 2]? = some (.deferred (some [])) ∧ ZipK Bx By A A' n c c' ss tt W ∧
  W.cell? ⟨B, 0, none⟩ = some (.string ⟨#[]⟩) ∧ W.cell? ⟨B + 1, 0, none⟩ = some (.string ⟨#[]⟩) ∧ W.cell? ⟨B + 2, 0, none⟩ = some (.bool false) ∧
  W.frozen? ⟨B, 0, none⟩ = false ∧ W.frozen? ⟨B + 1, 0, none⟩ = false ∧ W.frozen? ⟨B + 2, 0, none⟩ = false ∧ collF ss tt = collF (ss.drop k) (tt.drop k) ∧ Below w.heap.size w W ∧ l < W.heap.size
def CollD (w : World) (B l Bx : Nat) (r : Loop) (id : Nat) (ss tt : List ByteArray) (W : World) : Prop :=
  W.heap[l]? = some (Rng.doneOf r (.exit id)) ∧ W.heap[Bx + 2]? = some (.deferred (some [])) ∧ ∃ x y, collF ss tt = some (x, y) ∧
  W.cell? ⟨B, 0, none⟩ = some (.string x) ∧ W.cell? ⟨B + 1, 0, none⟩ = some (.string y) ∧ W.cell? ⟨B + 2, 0, none⟩ = some (.bool true) ∧ Below w.heap.size w W ∧ l < W.heap.size
theorem bytes_inj {x y : ByteArray} (h : x.data.toList = y.data.toList) : x = y := by
  obtain ⟨x⟩ := x
  obtain ⟨y⟩ := y
  exact congrArg ByteArray.mk (Array.toList_inj.1 h)
theorem sl_own {W : World} {base g n cap : Nat} {xs : List Value} (h : W.ownsRow base 9 1 (.slice (some ⟨g, 0, none⟩) n cap) n xs) : Sl W W.heap.size 1 (some ⟨g, 0, none⟩) n xs := by
  refine ⟨h.1, fun _ => ⟨g, 0, rfl, (h.lt g rfl).2, ?_⟩⟩
  intro j u hu
  obtain ⟨hj, _⟩ := List.getElem?_eq_some_iff.1 hu
  rw [Nat.zero_add]
  exact (h.cellAt j (by have := h.1; omega)).trans hu
theorem Sl.same {W W' : World} {size g n : Nat} {xs : List Value} (h : Sl W W.heap.size size (some ⟨g, 0, none⟩) n xs) (hg : W'.heap[g]? = W.heap[g]?) (hs : W.heap.size ≤ W'.heap.size) : Sl W' W'.heap.size size (some ⟨g, 0, none⟩) n xs := by
  refine ⟨h.1, fun hn => ?_⟩
  obtain ⟨b, off, e, hB, hc⟩ := h.2 hn
  injection e with e
  injection e with e1 e2 e3
  subst e1; subst e2
  exact ⟨g, 0, rfl, by omega, fun j u hu => (World.cell?_of_block hg).trans (hc j u hu)⟩
theorem collF_drop (ss tt : List ByteArray) (k : Nat) (x y : ByteArray) (hx : ss[k]? = some x) (hy : tt[k]? = some y) :
    collF (ss.drop k) (tt.drop k) = if x = y then collF (ss.drop (k + 1)) (tt.drop (k + 1)) else if Dig.sum x.data.toList = Dig.sum y.data.toList then some (x, y) else collF (ss.drop (k + 1)) (tt.drop (k + 1)) := by
  obtain ⟨h1, e1⟩ := List.getElem?_eq_some_iff.1 hx
  obtain ⟨h2, e2⟩ := List.getElem?_eq_some_iff.1 hy
  rw [List.drop_eq_getElem_cons h1, List.drop_eq_getElem_cons h2, e1, e2]
  rfl
theorem collF_end (ss tt : List ByteArray) (k : Nat) (h : ss.length ≤ k) : collF (ss.drop k) (tt.drop k) = none := by
  rw [List.drop_of_length_le h]
  cases tt.drop k <;> rfl
theorem climbT_size (d : UInt64) (p : Forks) : ∀ t ∈ Mk.climbT d p, (bytesOf t).size ≤ maxLen := by
  induction p generalizing d with
  | nil => intro t h; cases h
  | cons a p ih =>
    intro t h
    rcases List.mem_cons.1 h with rfl | h
    · unfold Mk.upT
      split <;> exact node_size _ _
    · exact ih _ t h
theorem climbS_size (s : ByteArray) (hs : s.size ≤ 140737488355328) (p : Forks) (x : ByteArray) (h : x ∈ climbS s p) : x.size ≤ maxLen := by
  rcases List.mem_cons.1 h with rfl | h
  · exact leaf_size s hs
  · obtain ⟨t, ht, rfl⟩ := List.mem_map.1 h
    exact climbT_size _ _ t ht
set_option maxRecDepth 100000 in
set_option maxHeartbeats 4000000 in
theorem collision_ok (A A' : Option Addr) (c c' : Nat) (n i : Int) (a : ByteArray) (p : Forks) (b : ByteArray) (q : Forks) (w : World) (hA : Sl w w.heap.size 2 A p.length (forkV p)) (hA' : Sl w w.heap.size 2 A' q.length (forkV q)) (hs : a.size ≤ 140737488355328) (hs' : b.size ≤ 140737488355328)
    (hp : properB n i p = true) (hq : properB n i q = true) (hr : Mk.climbD (Mk.leafD a.data.toList) p = Mk.climbD (Mk.leafD b.data.toList) q) :
    Calls Tryd.prog 33 #[.int .i64 n, .int .i64 i, .string a, .slice A p.length c, .string b, .slice A' q.length c'] w fun e w' => e = .returned (collT (collF (climbS a p) (climbS b q))) ∧ Below w.heap.size w w' := by
  have hp10 := proper_len hp
  have hq10 := proper_len hq
  have hlen : q.length = p.length := by
    have h1 := (of_decide_eq_true hp).2
    have h2 := (of_decide_eq_true hq).2
    have := congrArg List.length (h1.symm.trans h2)
    simp only [List.length_map] at this
    exact this.symm
  have HA := Lib.hid hA
  have HA' := Lib.hid hA'
  have Hlen := Lib.hid hlen
  clear hA hA' hlen
  refine (callsIn_wide (n := 4)).1 ?_
  refine callsIn_of_wp_marks Tryd.func33 rfl trivial ?_ rfl
  simp only [Tryd.ntmps33, List.size_toArray, List.length_cons, List.length_nil, Nat.reduceAdd, Nat.reduceSub, Array.replicate_succ, Array.replicate_zero, List.push_toArray, List.append_toArray, List.nil_append, List.cons_append]
  refine wpIn_wide.2 ?_
  go_wp2_with fail
  go_step3
  go_wp2_with fail
  refine (proper_any _ _ _ _ _ _ HA.out).mono ?_
  rintro e w1 ⟨rfl, hB1⟩
  go_wp2_with fail
  refine (proper_any _ _ _ _ _ _ ((HA'.out.below hB1).mono hB1.size)).mono ?_
  rintro e w2 ⟨rfl, hB2⟩
  have hB2 := hB1.trans (hB2.mono hB1.size)
  go_wp2_with fail
  refine (climb_any _ _ _ _ _ ((HA.out.below hB2).mono hB2.size) (by omega) hs).mono ?_
  rintro e w3 ⟨v1, rfl, hown1, hB3⟩
  have hB3' := hB2.trans (hB3.mono hB2.size)
  go_wp2_with fail
  refine (climb_any _ _ _ _ _ ((HA'.out.below hB3').mono hB3'.size) (by omega) hs').mono ?_
  rintro e w4 ⟨v2, rfl, hown2, hB4⟩
  have hown1 := own_below hown1 hB4
  have hB4' := hB3'.trans (hB4.mono hB3'.size)
  rw [climbS_len] at hown1 hown2
  rw [Hlen.out] at hown2
  obtain ⟨g1, cap1, hv1⟩ := ownsRow_succ hown1
  obtain ⟨g2, cap2, hv2⟩ := ownsRow_succ hown2
  subst hv1 hv2
  rw [← hr]
  have Hown1 := Lib.hid hown1
  have Hown2 := Lib.hid hown2
  clear hown1 hown2
  go_wp2_with fail
  obtain ⟨d, hd⟩ : ∃ d, d = Mk.climbD (Mk.leafD b.data.toList) q := ⟨_, rfl⟩
  rw [← hd]
  clear hd hr hp hq
  obtain ⟨w5, hw5⟩ : ∃ w5, w5 = ((w4.alloc (.cells #[.string ⟨#[]⟩] 9)).alloc (.cells #[.string ⟨#[]⟩] 9)).alloc (.cells #[.bool false] 4) := ⟨_, rfl⟩
  rw [← hw5]
  have hsz5 : w5.heap.size = w4.heap.size + 3 := by rw [hw5]; simp
  have hB5 : Below w4.heap.size w4 w5 := by rw [hw5]; exact (((Below.refl _ _).alloc (Nat.le_refl _) _).alloc (by simp) _).alloc (by simp; omega) _
  have hc0 : w5.cell? ⟨w4.heap.size, 0, none⟩ = some (.string ⟨#[]⟩) := by rw [hw5]; simp [go_sem]
  have hc1 : w5.cell? ⟨w4.heap.size + 1, 0, none⟩ = some (.string ⟨#[]⟩) := by rw [hw5]; simp [go_sem]
  have hc2 : w5.cell? ⟨w4.heap.size + 2, 0, none⟩ = some (.bool false) := by rw [hw5]; simp [go_sem]
  have hf0 : w5.frozen? ⟨w4.heap.size, 0, none⟩ = false := by rw [hw5]; simp [go_sem]
  have hf1 : w5.frozen? ⟨w4.heap.size + 1, 0, none⟩ = false := by rw [hw5]; simp [go_sem]
  have hf2 : w5.frozen? ⟨w4.heap.size + 2, 0, none⟩ = false := by rw [hw5]; simp [go_sem]
  clear hw5
  have o1 := own_below Hown1.out hB5
  have o2 := own_below Hown2.out hB5
  have S1 := Lib.hid (sl_own o1)
  have Hcl := Lib.hid hc0
  have Hf := Lib.hid (And.intro hc1 (And.intro hc2 (And.intro hf0 (And.intro hf1 hf2))))
  have Ho2 := Lib.hid o2
  clear hc0 hc1 hc2 hf0 hf1 hf2 o1 o2
  go_step3
  go_wp2_with fail
  refine (clone_any _ _ _ _ _ S1.out (by omega) (by omega)).mono ?_
  rintro e w6 ⟨v3, rfl, hown3, hB6⟩
  obtain ⟨g3, cap3, hv3⟩ := ownsRow_succ hown3
  subst hv3
  have Hown3 := Lib.hid hown3
  clear hown3
  go_wp2_with fail
  refine (zip_any _ _ _ _ _ _ _).mono ?_
  rintro e w7 ⟨rfl, hw7⟩
  have hsz7 : w7.heap.size = w6.heap.size + 2 := by rw [hw7]; simp
  have hB7 : Below w6.heap.size w6 w7 := by rw [hw7]; exact ((Below.refl _ _).alloc (Nat.le_refl _) _).alloc (by simp) _
  have hx7 : w7.cell? ⟨w6.heap.size, 0, none⟩ = some (.slice (some ⟨g3, 0, none⟩) (p.length + 1) cap3) := by rw [hw7]; simp [go_sem]
  have hy7 : w7.cell? ⟨w6.heap.size + 1, 0, none⟩ = some (.slice (some ⟨g2, 0, none⟩) (p.length + 1) cap2) := by rw [hw7]; simp [go_sem]
  clear hw7
  have Hx7 := Lib.hid hx7
  have Hy7 := Lib.hid hy7
  have Hsz7 := Lib.hid hsz7
  clear hx7 hy7 hsz7
  go_wp2_with fail
  refine (wpIn_wide (n := 3)).1 ?_
  refine Rng.range_any rfl (by omega) (gf := 77) (lb := #[.pointer (some ⟨w6.heap.size, 0, none⟩), .pointer (some ⟨w6.heap.size + 1, 0, none⟩)]) rfl trivial (enters_of Tryd.func77 (by kernel_rfl) rfl) ?_
  intro r hfn hra hrb hrt hrp
  refine callsIn_wide.2 ?_
  obtain ⟨W2, hW2⟩ : ∃ W2, W2 = (w7.alloc (.deferred (some []))).alloc (Rng.readyOf r) := ⟨_, rfl⟩
  rw [← hW2]
  have hsz7 := Hsz7.out
  have hS2 : W2.heap.size = w7.heap.size + 2 := by rw [hW2]; simp
  have hB2' : Below w7.heap.size w7 W2 := by rw [hW2]; exact ((Below.refl _ _).alloc (Nat.le_refl _) _).alloc (by simp) _
  have hl2 : W2.heap[w7.heap.size + 1]? = some (Rng.readyOf r) := by rw [hW2]; have := World.alloc_heap_new (w7.alloc (.deferred (some []))) (Rng.readyOf r); rwa [World.size_alloc] at this
  have hd2 : W2.heap[w6.heap.size + 2]? = some (.deferred (some [])) := by rw [hW2, ← hsz7]; exact (Below.heap_alloc _ _ _ (by simp)).trans (World.alloc_heap_new w7 _)
  clear hW2
  have hs6 := hB6.size
  have h57 : Below w5.heap.size w5 W2 := hB6.trans ((hB7.mono hs6).trans (hB2'.mono (by omega)))
  have hJ0 : CollJ w w4.heap.size (w7.heap.size + 1) w6.heap.size (w6.heap.size + 1) r (some ⟨g3, 0, none⟩) (some ⟨g2, 0, none⟩) (p.length + 1) cap3 cap2 (climbS a p) (climbS b q) 0 W2 := by
    have o3 := own_below (own_below Hown3.out hB7) hB2'
    have o2 := own_below Ho2.out h57
    obtain ⟨f1, f2, f3, f4, f5⟩ := Hf.out
    refine ⟨hl2, hd2, ⟨?_, ?_, sl_own o3, sl_own o2⟩, ?_, ?_, ?_, ?_, ?_, ?_, rfl, ?_, by omega⟩
    · exact (hB2'.cell (p := ⟨w6.heap.size, 0, none⟩) (by simp; omega)).trans Hx7.out
    · exact (hB2'.cell (p := ⟨w6.heap.size + 1, 0, none⟩) (by simp; omega)).trans Hy7.out
    · exact (h57.cell (p := ⟨w4.heap.size, 0, none⟩) (by simp; omega)).trans Hcl.out
    · exact (h57.cell (p := ⟨w4.heap.size + 1, 0, none⟩) (by simp; omega)).trans f1
    · exact (h57.cell (p := ⟨w4.heap.size + 2, 0, none⟩) (by simp; omega)).trans f2
    · exact (h57.frozen (p := ⟨w4.heap.size, 0, none⟩) (by simp; omega)).trans f3
    · exact (h57.frozen (p := ⟨w4.heap.size + 1, 0, none⟩) (by simp; omega)).trans f4
    · exact (h57.frozen (p := ⟨w4.heap.size + 2, 0, none⟩) (by simp; omega)).trans f5
    · exact hB4'.trans ((hB5.mono hB4'.size).trans (h57.mono (by have := hB4'.size; omega)))
  show Calls Tryd.prog 77 #[.func (.yield (w7.heap.size + 1)) #[] #[], .pointer (some ⟨w6.heap.size, 0, none⟩), .pointer (some ⟨w6.heap.size + 1, 0, none⟩)] W2 _
  refine (zip1_any (w7.heap.size + 1) 1 (p.length + 1) w6.heap.size (w6.heap.size + 1) (some ⟨g3, 0, none⟩) (some ⟨g2, 0, none⟩) cap3 cap2 (climbS a p) (climbS b q) W2 (CollJ w w4.heap.size (w7.heap.size + 1) w6.heap.size (w6.heap.size + 1) r (some ⟨g3, 0, none⟩) (some ⟨g2, 0, none⟩) (p.length + 1) cap3 cap2 (climbS a p) (climbS b q)) (CollD w w4.heap.size (w7.heap.size + 1) w6.heap.size r 0 (climbS a p) (climbS b q)) (by omega) (climbS_len a p) (by rw [climbS_len, Hlen.out]) hJ0 ?hK ?hY ?hD).mono ?_
  case hK => exact fun k W' h => h.2.2.1
  case hD => exact fun k W' h => ⟨h.1, h.2.1, h.2.2.1, h.2.2.2.1, h.2.2.2.2.1, h.2.2.2.2.2.1, h.2.2.2.2.2.2.1, h.2.2.2.2.2.2.2.1, h.2.2.2.2.2.2.2.2.1, h.2.2.2.2.2.2.2.2.2.1, h.2.2.2.2.2.2.2.2.2.2.1.drew, h.2.2.2.2.2.2.2.2.2.2.2⟩
  case hY =>
    intro k W x y hJ hk hx hy
    obtain ⟨hl0, hd0, ⟨z1, z2, z3, z4⟩, b0, b1, b2, f0, f1, f2, hcf, hBw, hlt⟩ := hJ
    have hg3 := (Hown3.out.lt g3 rfl).2
    have hg2 := (Hown2.out.lt g2 rfl).2
    have hsx := climbS_size a hs p x (List.mem_of_getElem? hx)
    have hsy := climbS_size b hs' q y (List.mem_of_getElem? hy)
    have hdrop := collF_drop _ _ k x y hx hy
    have hs4 := hB5.size
    refine Rng.yield_at hl0 hra hrb (by rw [hrt, hrp]) (by rw [hrp]; rfl) hfn ?_
    obtain ⟨W4, hW4⟩ : ∃ W4, W4 = W.putObj (w7.heap.size + 1) (Rng.busyOf r) := ⟨_, rfl⟩
    have h4 : ∀ j, j ≠ w7.heap.size + 1 → W4.heap[j]? = W.heap[j]? := fun j hj => by rw [hW4]; exact World.putObj_heap_other hj
    have hl4 : W4.heap[w7.heap.size + 1]? = some (Rng.busyOf r) := by rw [hW4]; exact World.putObj_heap_same hlt
    have hS4 : W4.heap.size = W.heap.size := by rw [hW4]; simp
    have hB4 : Below w.heap.size w W4 := by rw [hW4]; exact below_putObj hBw hBw.size (by have := hB4'.size; omega) _
    have c0 : W4.cell? ⟨w4.heap.size, 0, none⟩ = some (.string ⟨#[]⟩) := (World.cell?_of_block (h4 w4.heap.size (by omega))).trans b0
    have c1 : W4.cell? ⟨w4.heap.size + 1, 0, none⟩ = some (.string ⟨#[]⟩) := (World.cell?_of_block (h4 (w4.heap.size + 1) (by omega))).trans b1
    have c2 : W4.cell? ⟨w4.heap.size + 2, 0, none⟩ = some (.bool false) := (World.cell?_of_block (h4 (w4.heap.size + 2) (by omega))).trans b2
    have e0 : W4.frozen? ⟨w4.heap.size, 0, none⟩ = false := (World.frozen?_of_block (h4 w4.heap.size (by omega))).trans f0
    have e1 : W4.frozen? ⟨w4.heap.size + 1, 0, none⟩ = false := (World.frozen?_of_block (h4 (w4.heap.size + 1) (by omega))).trans f1
    have e2 : W4.frozen? ⟨w4.heap.size + 2, 0, none⟩ = false := (World.frozen?_of_block (h4 (w4.heap.size + 2) (by omega))).trans f2
    have again : collF (climbS a p) (climbS b q) = collF ((climbS a p).drop (k + 1)) ((climbS b q).drop (k + 1)) → CollJ w w4.heap.size (w7.heap.size + 1) w6.heap.size (w6.heap.size + 1) r (some ⟨g3, 0, none⟩) (some ⟨g2, 0, none⟩) (p.length + 1) cap3 cap2 (climbS a p) (climbS b q) (k + 1) (W4.putObj (w7.heap.size + 1) (Rng.readyOf r)) := by
      intro hc
      have h5 : ∀ j, j ≠ w7.heap.size + 1 → (W4.putObj (w7.heap.size + 1) (Rng.readyOf r)).heap[j]? = W.heap[j]? := fun j hj => (World.putObj_heap_other hj).trans (h4 j hj)
      refine ⟨World.putObj_heap_same (by omega), (h5 _ (by omega)).trans hd0, ⟨?_, ?_, Sl.same z3 (h5 g3 (by omega)) (by simp; omega), Sl.same z4 (h5 g2 (by omega)) (by simp; omega)⟩, ?_, ?_, ?_, ?_, ?_, ?_, hc, below_putObj hB4 hB4.size (by have := hB4'.size; omega) _, by simp; omega⟩
      · exact (World.cell?_of_block (h5 w6.heap.size (by omega))).trans z1
      · exact (World.cell?_of_block (h5 (w6.heap.size + 1) (by omega))).trans z2
      · exact (World.cell?_of_block (h5 w4.heap.size (by omega))).trans b0
      · exact (World.cell?_of_block (h5 (w4.heap.size + 1) (by omega))).trans b1
      · exact (World.cell?_of_block (h5 (w4.heap.size + 2) (by omega))).trans b2
      · exact (World.frozen?_of_block (h5 w4.heap.size (by omega))).trans f0
      · exact (World.frozen?_of_block (h5 (w4.heap.size + 1) (by omega))).trans f1
      · exact (World.frozen?_of_block (h5 (w4.heap.size + 2) (by omega))).trans f2
    have Hagain := Lib.hid again
    have Hx := Lib.hid hsx
    have Hy := Lib.hid hsy
    have Hlt := Lib.hid hlt
    have HS4 := Lib.hid hS4
    have Hl0 := Lib.hid hl0
    have Hl4 := Lib.hid hl4
    have HW4 := Lib.hid hW4
    have Hd4 := Lib.hid ((h4 _ (by omega)).trans hd0)
    have Hdrop := Lib.hid hdrop
    have Hcf := Lib.hid hcf
    have HB4 := Lib.hid hB4
    clear again hl0 hl4 hW4 h4 hd0 hdrop hcf hB4 z1 z2 z3 z4 b0 b1 b2 f0 f1 f2 hx hy hra hrb hrt hrp hl2 hd2 hJ0 hsx hsy hlt hS4 hsz7 hS2
    gi_wp2
    refine ⟨Hl0.out, ?_⟩
    rw [← HW4.out]
    by_cases hxy : x = y
    · have hc : collF (climbS a p) (climbS b q) = collF ((climbS a p).drop (k + 1)) ((climbS b q).drop (k + 1)) := by rw [Hcf.out, Hdrop.out, if_pos hxy]
      have Hc := Lib.hid hc
      clear hc
      gi_wp2
      exact ⟨Hl4.out, .inl ⟨rfl, Hagain.out Hc.out⟩⟩
    · have Hxy := Lib.hid hxy
      have hdx : (x.toList == y.toList) = false := by rw [ByteArray.toList_eq, ByteArray.toList_eq]; simpa using fun e => hxy (bytes_inj e)
      gi_wp2
      refine ⟨trivial, CallsIn.inRound _ (callsIn_wide.2 ?_)⟩
      refine (sum_any _ _ Hx.out).mono ?_
      rintro e w' ⟨rfl, rfl⟩
      gi_wp2
      refine ⟨trivial, CallsIn.inRound _ (callsIn_wide.2 ?_)⟩
      refine (sum_any _ _ Hy.out).mono ?_
      rintro e w' ⟨rfl, rfl⟩
      by_cases hsum : Dig.sum x.data.toList = Dig.sum y.data.toList
      · have hcol : collF (climbS a p) (climbS b q) = some (x, y) := by rw [Hcf.out, Hdrop.out, if_neg Hxy.out, if_pos hsum]
        have Hcol := Lib.hid hcol
        have Hsum := Lib.hid hsum
        have hsum' : ((Dig.sum x.data.toList).toNat : Int) = (Dig.sum y.data.toList).toNat := by rw [hsum]
        rw [hsum']
        clear hcol hsum hsum'
        gi_wp2
        have far : ∀ j, j ≠ w4.heap.size → j ≠ w4.heap.size + 1 → j ≠ w4.heap.size + 2 → (((W4.setCell ⟨w4.heap.size, 0, none⟩ (.string x)).setCell ⟨w4.heap.size + 1, 0, none⟩ (.string y)).setCell ⟨w4.heap.size + 2, 0, none⟩ (.bool true)).heap[j]? = W4.heap[j]? := fun j h0 h1 h2 => (Below.heap_setCell _ _ _ _ h2).trans ((Below.heap_setCell _ _ _ _ h1).trans (Below.heap_setCell _ _ _ _ h0))
        have hB5' : Below w.heap.size w (((W4.setCell ⟨w4.heap.size, 0, none⟩ (.string x)).setCell ⟨w4.heap.size + 1, 0, none⟩ (.string y)).setCell ⟨w4.heap.size + 2, 0, none⟩ (.bool true)) := ((HB4.out.setCell (by have := hB4'.size; simp; omega) _).setCell (by have := hB4'.size; simp; omega) _).setCell (by have := hB4'.size; simp; omega) _
        have k0 : (((W4.setCell ⟨w4.heap.size, 0, none⟩ (.string x)).setCell ⟨w4.heap.size + 1, 0, none⟩ (.string y)).setCell ⟨w4.heap.size + 2, 0, none⟩ (.bool true)).cell? ⟨w4.heap.size, 0, none⟩ = some (.string x) := by
          rw [World.cell?_setCell_other _ _ _ _ (by simp), World.cell?_setCell_other _ _ _ _ (by simp)]
          exact World.cell?_setCell_same' _ _ _ (by rw [c0]; rfl)
        have k1 : (((W4.setCell ⟨w4.heap.size, 0, none⟩ (.string x)).setCell ⟨w4.heap.size + 1, 0, none⟩ (.string y)).setCell ⟨w4.heap.size + 2, 0, none⟩ (.bool true)).cell? ⟨w4.heap.size + 1, 0, none⟩ = some (.string y) := by
          rw [World.cell?_setCell_other _ _ _ _ (by simp)]
          exact World.cell?_setCell_same' _ _ _ (by rw [World.cell?_setCell_other _ _ _ _ (by simp), c1]; rfl)
        have k2 : (((W4.setCell ⟨w4.heap.size, 0, none⟩ (.string x)).setCell ⟨w4.heap.size + 1, 0, none⟩ (.string y)).setCell ⟨w4.heap.size + 2, 0, none⟩ (.bool true)).cell? ⟨w4.heap.size + 2, 0, none⟩ = some (.bool true) := World.cell?_setCell_same' _ _ _ (by rw [World.cell?_setCell_other _ _ _ _ (by simp), World.cell?_setCell_other _ _ _ _ (by simp), c2]; rfl)
        have hz := Hsz7.out
        have hlt := Hlt.out
        have hS4 := HS4.out
        refine ⟨(far _ (by omega) (by omega) (by omega)).trans Hl4.out, .inr ⟨rfl, World.putObj_heap_same (by simp [World.setCell]; omega), ?_, x, y, Hcol.out, ?_, ?_, ?_, below_putObj hB5' hB5'.size (by have := hB4'.size; omega) _, by simp [World.setCell]; omega⟩⟩
        · exact (World.putObj_heap_other (by omega)).trans ((far _ (by omega) (by omega) (by omega)).trans Hd4.out)
        · exact (World.cell?_of_block (World.putObj_heap_other (by simp; omega))).trans k0
        · exact (World.cell?_of_block (World.putObj_heap_other (by simp; omega))).trans k1
        · exact (World.cell?_of_block (World.putObj_heap_other (by simp; omega))).trans k2
      · have hc : collF (climbS a p) (climbS b q) = collF ((climbS a p).drop (k + 1)) ((climbS b q).drop (k + 1)) := by rw [Hcf.out, Hdrop.out, if_neg Hxy.out, if_neg hsum]
        have Hc := Lib.hid hc
        have hsum' : (((Dig.sum x.data.toList).toNat : Int) == ((Dig.sum y.data.toList).toNat : Int)) = false := by rw [u64_beq]; simpa using hsum
        clear hc hsum
        gi_wp2
        exact ⟨Hl4.out, .inl ⟨rfl, Hagain.out Hc.out⟩⟩
  rintro e W3 ⟨⟨v, rfl⟩, hJ | hD⟩
  · obtain ⟨hl0, hd0, _, b0, b1, b2, _, _, _, hcf, hBw, hlt⟩ := hJ
    refine ⟨_, rfl, .inl ⟨hl0, ?_⟩⟩
    dsimp only
    obtain ⟨W4, hW4⟩ : ∃ W4, W4 = W3.putObj (w7.heap.size + 1) (Rng.overOf r none) := ⟨_, rfl⟩
    rw [← hW4]
    have h4 : ∀ j, j ≠ w7.heap.size + 1 → W4.heap[j]? = W3.heap[j]? := fun j hj => by rw [hW4]; exact World.putObj_heap_other hj
    have hcol : collF (climbS a p) (climbS b q) = none := by rw [hcf]; exact collF_end _ _ _ (by rw [climbS_len]; exact Nat.le_refl _)
    have hs4 := hB5.size
    have c0 : W4.cell? ⟨w4.heap.size, 0, none⟩ = some (.string ⟨#[]⟩) := (World.cell?_of_block (h4 w4.heap.size (by omega))).trans b0
    have c1 : W4.cell? ⟨w4.heap.size + 1, 0, none⟩ = some (.string ⟨#[]⟩) := (World.cell?_of_block (h4 (w4.heap.size + 1) (by omega))).trans b1
    have c2 : W4.cell? ⟨w4.heap.size + 2, 0, none⟩ = some (.bool false) := (World.cell?_of_block (h4 (w4.heap.size + 2) (by omega))).trans b2
    have hd4 : W4.heap[w7.heap.size]? = some (.deferred (some [])) := by rw [hsz7]; exact (h4 _ (by omega)).trans hd0
    have hB4 : Below w.heap.size w W4 := by rw [hW4]; exact below_putObj hBw hBw.size (by have := hB4'.size; omega) _
    have Hd4 := Lib.hid hd4
    have Hcol := Lib.hid hcol
    clear hW4 h4 hd4 hcol hcf b0 b1 b2 hl0 hd0 hra hrb hrt hrp hl2 hd2 hJ0 hsz7 hS2 hsz5
    gi_wp2
    go_wp2
    go_region
    go_wp2
    rw [Exit.noGoto_ret]
    refine ⟨by simp, .inl ⟨_, _, rfl, run_takeDeferred Hd4.out, ?_⟩⟩
    refine ⟨_, results_tmp3 rfl _ _ _, ?_⟩
    rw [Hcol.out]
    exact ⟨rfl, below_putObj hB4.drew hB4.size (by have := Hsz7.out; have := hB4'.size; have := hB5.size; omega) _⟩
  · obtain ⟨hl0, hd0, x, y, hcol, b0, b1, b2, hBw, hlt⟩ := hD
    refine ⟨_, rfl, .inr ⟨_, hl0, ?_⟩⟩
    obtain ⟨W4, hW4⟩ : ∃ W4, W4 = W3.putObj (w7.heap.size + 1) (Rng.overOf r (some (.exit 0))) := ⟨_, rfl⟩
    rw [← hW4]
    have h4 : ∀ j, j ≠ w7.heap.size + 1 → W4.heap[j]? = W3.heap[j]? := fun j hj => by rw [hW4]; exact World.putObj_heap_other hj
    have hs4 := hB5.size
    have c0 : W4.cell? ⟨w4.heap.size, 0, none⟩ = some (.string x) := (World.cell?_of_block (h4 w4.heap.size (by omega))).trans b0
    have c1 : W4.cell? ⟨w4.heap.size + 1, 0, none⟩ = some (.string y) := (World.cell?_of_block (h4 (w4.heap.size + 1) (by omega))).trans b1
    have c2 : W4.cell? ⟨w4.heap.size + 2, 0, none⟩ = some (.bool true) := (World.cell?_of_block (h4 (w4.heap.size + 2) (by omega))).trans b2
    have hd4 : W4.heap[w7.heap.size]? = some (.deferred (some [])) := by rw [hsz7]; exact (h4 _ (by omega)).trans hd0
    have hB4 : Below w.heap.size w W4 := by rw [hW4]; exact below_putObj hBw hBw.size (by have := hB4'.size; omega) _
    have Hd4 := Lib.hid hd4
    have Hcol := Lib.hid hcol
    clear hW4 h4 hd4 hcol b0 b1 b2 hl0 hd0 hra hrb hrt hrp hl2 hd2 hJ0 hsz7 hS2 hsz5
    gi_wp2
    go_wp2
    go_region
    go_wp2
    rw [Exit.noGoto_ret]
    refine ⟨by simp, .inl ⟨_, _, rfl, run_takeDeferred Hd4.out, ?_⟩⟩
    refine ⟨_, results_tmp3 rfl _ _ _, ?_⟩
    rw [Hcol.out]
    exact ⟨rfl, below_putObj hB4.drew hB4.size (by have := Hsz7.out; have := hB4'.size; have := hB5.size; omega) _⟩
set_option maxRecDepth 100000 in
theorem collision_any (A A' : Option Addr) (c c' : Nat) (n i : Int) (a : ByteArray) (p : Forks) (b : ByteArray) (q : Forks) (w : World) (hA : Sl w w.heap.size 2 A p.length (forkV p)) (hA' : Sl w w.heap.size 2 A' q.length (forkV q)) (hs : a.size ≤ 140737488355328) (hs' : b.size ≤ 140737488355328) :
    Calls Tryd.prog 33 #[.int .i64 n, .int .i64 i, .string a, .slice A p.length c, .string b, .slice A' q.length c'] w fun e w' => e = .returned (collT (collO n i a p b q)) ∧ Below w.heap.size w w' := by
  by_cases hall : properB n i p = true ∧ properB n i q = true ∧ Mk.climbD (Mk.leafD a.data.toList) p = Mk.climbD (Mk.leafD b.data.toList) q
  · have hO : collO n i a p b q = collF (climbS a p) (climbS b q) := by unfold collO; rw [if_pos hall]
    rw [hO]
    exact collision_ok A A' c c' n i a p b q w hA hA' hs hs' hall.1 hall.2.1 hall.2.2
  · have hO : collO n i a p b q = none := by unfold collO; rw [if_neg hall]
    rw [hO]
    have HA := Lib.hid hA
    have HA' := Lib.hid hA'
    clear hA hA' hO
    go_enter Tryd.func33, Tryd.ntmps33
    go_wp2_with fail
    go_step3
    go_wp2_with fail
    refine (proper_any _ _ _ _ _ _ HA.out).mono ?_
    rintro e w1 ⟨rfl, hB1⟩
    by_cases hp : properB n i p = true
    · go_wp2_with fail
      refine (proper_any _ _ _ _ _ _ ((HA'.out.below hB1).mono hB1.size)).mono ?_
      rintro e w2 ⟨rfl, hB2⟩
      have hB2 := hB1.trans (hB2.mono hB1.size)
      by_cases hq : properB n i q = true
      · have hr : ¬ Mk.climbD (Mk.leafD a.data.toList) p = Mk.climbD (Mk.leafD b.data.toList) q := fun e => hall ⟨hp, hq, e⟩
        have hp10 := proper_len hp
        have hq10 := proper_len hq
        clear hall
        go_wp2_with fail
        refine (climb_any _ _ _ _ _ ((HA.out.below hB2).mono hB2.size) (by omega) hs).mono ?_
        rintro e w3 ⟨v1, rfl, _, hB3⟩
        have hB3' := hB2.trans (hB3.mono hB2.size)
        go_wp2_with fail
        refine (climb_any _ _ _ _ _ ((HA'.out.below hB3').mono hB3'.size) (by omega) hs').mono ?_
        rintro e w4 ⟨v2, rfl, _, hB4⟩
        have hB4' := hB3'.trans (hB4.mono hB3'.size)
        have hne : (((Mk.climbD (Mk.leafD a.data.toList) p).toNat : Int) != ((Mk.climbD (Mk.leafD b.data.toList) q).toNat : Int)) = true := by
          have := u64_beq (Mk.climbD (Mk.leafD a.data.toList) p) (Mk.climbD (Mk.leafD b.data.toList) q)
          rw [bne, this]
          simpa using hr
        obtain ⟨d1, hd1⟩ : ∃ d1 : Int, d1 = ((Mk.climbD (Mk.leafD a.data.toList) p).toNat : Int) := ⟨_, rfl⟩
        obtain ⟨d2, hd2⟩ : ∃ d2 : Int, d2 = ((Mk.climbD (Mk.leafD b.data.toList) q).toNat : Int) := ⟨_, rfl⟩
        rw [← hd1, ← hd2] at hne
        rw [← hd1, ← hd2]
        have hne' : ¬ d1 = d2 := by simpa using hne
        clear hd1 hd2 hr
        go_wp2
        rw [Exit.noGoto_ret]
        refine bodyPost_ret (results_tmp3 rfl _ _ _) rfl ?_
        exact ⟨rfl, hB4'⟩
      · rw [Bool.not_eq_true] at hq
        clear hall
        go_wp2
        rw [Exit.noGoto_ret]
        refine bodyPost_ret (results_tmp3 rfl _ _ _) rfl ?_
        exact ⟨rfl, hB2⟩
    · rw [Bool.not_eq_true] at hp
      clear hall
      go_wp2
      rw [Exit.noGoto_ret]
      refine bodyPost_ret (results_tmp3 rfl _ _ _) rfl ?_
      exact ⟨rfl, hB1⟩
end Go.Proofs.YthgkjcofmkkdcaaDoor
