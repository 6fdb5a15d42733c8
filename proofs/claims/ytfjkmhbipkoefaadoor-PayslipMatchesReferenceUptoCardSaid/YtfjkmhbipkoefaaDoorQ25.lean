/- The walk of Result (layer 35). -/
import Derived.Test.YtfjkmhbipkoefaaDoorQ16
namespace Go.Proofs.YtfjkmhbipkoefaaDoor
open Go.RowKit Go.Shelf
set_option linter.unusedVariables false
set_option linter.unusedSimpArgs false
set_option maxRecDepth 100000
abbrev SlipB (m : Int) (v : Value) (g t d : Int) (tk : Value) (n : Int) : Obj := .cells #[.string ⟨#[97, 110, 110]⟩, .int .i64 m, v, .int .i64 g, .int .i64 t, .int .i64 d, .int .i64 0, tk, .int .i64 n] 37 (0, 0)
/-- Where the loop over the lines stands. -/
structure ResJ (w0 : World) (P : Nat) (m : Int) (ls : List Quad) (k : Nat) (v : Value) (lines : List LineM) (wr : World) : Prop where
  hP : wr.heap[P]? = some (SlipB m v (grossF (ls.take k)) 0 (deductF (ls.take k)) (.slice none 0 0) 0)
  hR : wr.heap[w0.heap.size]? = some (.cells #[.string ⟨#[]⟩, .int .i64 0, .slice none 0 0, .int .i64 0, .int .i64 0, .int .i64 0, .int .i64 0, .slice none 0 0, .int .i64 0] 37 (0, 0))
  own : wr.ownsRow (P + 1) 62 6 v k (lines.flatMap lineV)
  len : lines.length = k
  are : ∀ (j : Nat) (x : LineM) (q : Quad), lines[j]? = some x → ls[j]? = some q → LineIs q x
  ok : ∀ x ∈ lines, LineT wr x
  bel : Below w0.heap.size w0 wr
  hp0 : w0.heap.size + 1 ≤ P
def ResP (w : World) (month : Int) (ls : List Quad) (os : List Int) (e : Ending) (w' : World) : Prop :=
  ∃ s, e = .returned (slipV s) ∧ SlipOk w' s ∧ ResIs month ls os s ∧ (s.lines.length ≤ s.lc ∧ s.lc ≤ maxLen) ∧ Below w.heap.size w w'
theorem own_ne {W : World} {base : Nat} {e : TypeId} {size n : Nat} {v : Value} {xs : List Value} (h : W.ownsRow base e size v n xs) {b : Nat} (hb : b < base) : v.ownBlock ≠ some b := fun hv => by
  have := (h.lt b hv).1
  omega
theorem qtake_snoc (ls : List Quad) (k : Nat) (q : Quad) (h : ls[k]? = some q) : ls.take (k + 1) = ls.take k ++ [q] := by
  rw [List.take_add_one, h]; rfl
/-- One line more. -/
theorem resJ_step {w0 wo wd W : World} {P k : Nat} {m : Int} {ls : List Quad} {v v' : Value} {lines : List LineM} {x : LineM} {q : Quad} (h : ResJ w0 P m ls k v lines wo) (hBo : Below wo.heap.size wo wd) (hq : ls[k]? = some q) (hx : LineIs q x) (hlt : LineT wd x) (hs : wd.heap.size ≤ W.heap.size)
    (hk : ∀ (b : Nat) (cs : Array Value) (fr : Nat × Nat), wd.heap[b]? = some (Obj.cells cs 3 fr) → W.heap[b]? = wd.heap[b]?) (hP : W.heap[P]? = some (SlipB m v' (grossF (ls.take (k + 1))) 0 (deductF (ls.take (k + 1))) (.slice none 0 0) 0)) (hR : W.heap[w0.heap.size]? = wo.heap[w0.heap.size]?)
    (own : W.ownsRow (P + 1) 62 6 v' (k + 1) (lines.flatMap lineV ++ lineV x)) (bel : Below w0.heap.size w0 W) : ResJ w0 P m ls (k + 1) v' (lines ++ [x]) W := by
  refine ⟨hP, hR.trans h.hR, by rw [List.flatMap_append]; simpa using own, by simp [h.len], ?_, ?_, bel, h.hp0⟩
  · intro j y q' hj hq'
    by_cases hlt' : j < lines.length
    · rw [List.getElem?_append_left hlt'] at hj
      exact h.are j y q' hj hq'
    · have hj2 := (List.getElem?_eq_some_iff.1 hj).1
      simp only [List.length_append, List.length_singleton] at hj2
      obtain rfl : j = lines.length := by omega
      rw [List.getElem?_append_right (Nat.le_refl _)] at hj
      simp at hj
      subst hj
      rw [h.len, hq] at hq'
      injection hq' with hq'
      rw [← hq']
      exact hx
  · intro y hy
    rcases List.mem_append.1 hy with hy | hy
    · exact lineT_keep ((h.ok y hy).go hBo) hs hk
    · obtain rfl := List.mem_singleton.1 hy
      exact lineT_keep hlt hs hk
/-- The numbers of a line lie in a row. -/
structure QuadAt (W : World) (b o : Nat) (q : Quad) : Prop where
  za : W.cell? ⟨b, o, none⟩ = some (.int .i64 q.a)
  zb : W.cell? ⟨b, o + 1, none⟩ = some (.int .i64 q.b)
  zc : W.cell? ⟨b, o + 2, none⟩ = some (.int .i64 q.c)
  zd : W.cell? ⟨b, o + 3, none⟩ = some (.int .i64 q.d)
theorem QuadAt.go {W W' : World} {b o : Nat} {q : Quad} (h : QuadAt W b o q) (hb : W'.heap[b]? = W.heap[b]?) : QuadAt W' b o q := by
  have f : ∀ i, W'.cell? ⟨b, i, none⟩ = W.cell? ⟨b, i, none⟩ := fun i => World.cell?_of_block hb
  exact ⟨(f _).trans h.za, (f _).trans h.zb, (f _).trans h.zc, (f _).trans h.zd⟩
theorem QuadAt.drew {W : World} {b o : Nat} {q : Quad} (h : QuadAt W b o q) : QuadAt W.drew b o q := ⟨h.za, h.zb, h.zc, h.zd⟩
theorem flat4 : ∀ (ls : List Quad) (k : Nat) (q : Quad) (j : Nat) (hj : j < 4), ls[k]? = some q → (ls.flatMap quadV)[4 * k + j]? = (quadV q)[j]?
  | [], k, q, j, hj, h => by simp at h
  | x :: ls, 0, q, j, hj, h => by
    simp only [List.getElem?_cons_zero, Option.some.injEq] at h
    subst h
    rw [List.flatMap_cons, List.getElem?_append_left (by simp [quadV]; omega), Nat.mul_zero, Nat.zero_add]
  | x :: ls, k + 1, q, j, hj, h => by
    rw [List.flatMap_cons, List.getElem?_append_right (by simp [quadV]; omega), ← flat4 ls k q j hj (by simpa using h)]
    congr 1
    simp [quadV]; omega
theorem quad_at {W W' : World} {b o k : Nat} {ls : List Quad} {q : Quad} (hq : ls[k]? = some q) (hc : ∀ (j : Nat) (u : Value), (ls.flatMap quadV)[j]? = some u → W.cell? ⟨b, o + j, none⟩ = some u) (hb : Below W.heap.size W W') (hlt : b < W.heap.size) : QuadAt W' b (o + k * 4) q := by
  have f : ∀ i, W'.cell? ⟨b, i, none⟩ = W.cell? ⟨b, i, none⟩ := fun i => World.cell?_of_block (hb.block _ hlt)
  have g : ∀ (j : Nat) (u : Value), j < 4 → (quadV q)[j]? = some u → W'.cell? ⟨b, o + k * 4 + j, none⟩ = some u := fun j u hj hu => by
    rw [f, Nat.add_assoc, Nat.mul_comm k 4]
    exact hc _ _ ((flat4 ls k q j hj hq).trans hu)
  exact ⟨g 0 _ (by decide) rfl, g 1 _ (by decide) rfl, g 2 _ (by decide) rfl, g 3 _ (by decide) rfl⟩
/-- Where the loop over the facts stands. -/
structure ResI (wr : World) (X : Nat) (a b c d : Int) (q : Quad) (j : Nat) (v : Value) (wx : World) : Prop where
  hX : wx.heap[X]? = some (.cells #[.int .i64 a, .int .i64 b, .int .i64 c, .int .i64 d, v, .slice none 0 0] 62 (0, 0))
  own : wx.ownsRow (X + 1) 3 1 v j (intV (factsF q j))
  bel : Below wr.heap.size wr wx
  hX3 : wr.heap.size ≤ X
theorem resI_step {wr wx W : World} {X j : Nat} {a b c d p3 : Int} {q : Quad} {v v' : Value} (h : ResI wr X a b c d q j v wx) (h3 : pickF q.a 3 = p3) (gX : W.heap[X]? = some (.cells #[.int .i64 a, .int .i64 b, .int .i64 c, .int .i64 d, v, .slice none 0 0] 62 (0, 0)))
    (own : W.ownsRow (X + 1) 3 1 v' (j + 1) (intV (factsF q j) ++ [.int .i64 (3 * (j : Int) + p3)])) (bel : Below wr.heap.size wr W) : ResI wr X a b c d q (j + 1) v' (W.setCell ⟨X, 4, none⟩ v') := by
  refine ⟨?_, ?_, bel.setCell h.hX3 _, h.hX3⟩
  · rw [setCell_heap gX]; rfl
  · rw [facts_snoc, h3]
    have e : intV (factsF q j ++ [3 * (j : Int) + p3]) = intV (factsF q j) ++ [.int .i64 (3 * (j : Int) + p3)] := by simp [intV]
    rw [e]
    refine own_to own fun b hb => Below.heap_setCell _ _ _ _ ?_
    have := (own.lt b hb).1
    show b ≠ X
    omega
def Cut5 (wr : World) (a b c d : Int) (s9 : Value) (wx : World) : Prop :=
  ∃ X, s9 = .pointer (some ⟨X, 0, none⟩) ∧ wx.heap[X]? = some (.cells #[.int .i64 a, .int .i64 b, .int .i64 c, .int .i64 d, .slice none 0 0, .slice none 0 0] 62 (0, 0)) ∧ wr.heap.size ≤ X ∧ Below wr.heap.size wr wx
theorem heap_set6 (W : World) (X b : Nat) (v0 v1 v2 v3 v4 v5 : Value) (h : b ≠ X) : ((((((W.setCell ⟨X, 0, none⟩ v0).setCell ⟨X, 1, none⟩ v1).setCell ⟨X, 2, none⟩ v2).setCell ⟨X, 3, none⟩ v3).setCell ⟨X, 4, none⟩ v4).setCell ⟨X, 5, none⟩ v5).heap[b]? = W.heap[b]? :=
  (Below.heap_setCell _ _ _ _ h).trans ((Below.heap_setCell _ _ _ _ h).trans ((Below.heap_setCell _ _ _ _ h).trans ((Below.heap_setCell _ _ _ _ h).trans ((Below.heap_setCell _ _ _ _ h).trans (Below.heap_setCell _ _ _ _ h)))))
theorem cut5_of {wr W : World} {X : Nat} {a b c d : Int} {cs : Array Value} (hX : W.heap[X]? = some (.cells cs 62 (0, 0))) (hcs : cs.size = 6) (hX3 : wr.heap.size ≤ X) (hb : Below wr.heap.size wr W) :
    Cut5 wr a b c d (.pointer (some ⟨X, 0, none⟩)) ((((((W.setCell ⟨X, 0, none⟩ (.int .i64 a)).setCell ⟨X, 1, none⟩ (.int .i64 b)).setCell ⟨X, 2, none⟩ (.int .i64 c)).setCell ⟨X, 3, none⟩ (.int .i64 d)).setCell ⟨X, 4, none⟩ (.slice none 0 0)).setCell ⟨X, 5, none⟩ (.slice none 0 0)) := by
  refine ⟨X, rfl, ?_, hX3, (((((hb.setCell hX3 _).setCell hX3 _).setCell hX3 _).setCell hX3 _).setCell hX3 _).setCell hX3 _⟩
  rw [setCell_heap (setCell_heap (setCell_heap (setCell_heap (setCell_heap (setCell_heap hX)))))]
  obtain ⟨l⟩ := cs
  match l, hcs with
  | [x0, x1, x2, x3, x4, x5], _ => rfl
def CutR (wo : World) (X : Nat) (q : Quad) (s9 : Value) (wx : World) : Prop :=
  s9 = .pointer (some ⟨X, 0, none⟩) ∧ ∃ x : LineM, LineIs q x ∧ LineT wx x ∧ wx.heap[X]? = some (.cells (lineV x).toArray 62 (0, 0)) ∧ Below wo.heap.size wo wx
theorem facts_len (q : Quad) (k : Nat) : (factsF q k).length = k := by simp [factsF]
theorem facts_bd (q : Quad) (k : Nat) (hk : k ≤ 4) : ∀ y ∈ factsF q k, I64 y := by
  intro y hy
  obtain ⟨j, hj, rfl⟩ := List.mem_map.1 hy
  have hj := List.mem_range.1 hj
  have := pickF_lt q.a 3 (by omega)
  unfold I64
  omega
theorem own_far {W : World} {base : Nat} {e : TypeId} {size n c : Nat} {A : Option Addr} {xs : List Value} (h : W.ownsRow base e size (.slice A n c) n xs) : ∀ a, A = some a → base ≤ a.block := by
  rintro a rfl
  rcases h.2 with ⟨h0, _⟩ | ⟨g, cap, cur, h1, h2, _⟩
  · cases h0
  · injection h1 with h1 _ _
    injection h1 with h1
    rw [h1]
    exact h2
theorem own_int {W : World} {base : Nat} {e : TypeId} {size n c : Nat} {A : Option Addr} {xs : List Value} (h : W.ownsRow base e size (.slice A n c) n xs) : ∀ a, A = some a → ∃ cs fr, W.heap[a.block]? = some (.cells cs e fr) := by
  rintro a rfl
  rcases h.2 with ⟨h0, _⟩ | ⟨g, cap, cur, h1, _, h2, _⟩
  · cases h0
  · injection h1 with h1 _ _
    injection h1 with h1
    rw [h1]
    exact ⟨_, _, h2⟩
theorem cutR_no {wo wr : World} {X F : Nat} {a b c d : Int} {q : Quad} {v : Value} (h : ResI wo X a b c d q F v wr) (ha : pickF q.a 36525 = a) (hb : pickF q.b 4 = b) (hc : pickF q.c 2 = c) (hd : pickF q.d 2000001 - 1000000 = d) (hF : pickF q.c 4 = (F : Int)) (hr : ¬ q.c.tmod 3 = 0) :
    CutR wo X q (.pointer (some ⟨X, 0, none⟩)) wr := by
  have hF4 := pickF_lt q.c 4 (by omega)
  have hd4 := pickF_lt q.d 2000001 (by omega)
  obtain ⟨A, cap, rfl, hS⟩ := own_slice h.own
  refine ⟨rfl, ⟨a, b, c, d, A, cap, factsF q F, none, 0, []⟩, ⟨ha.symm, hb.symm, hc.symm, hd.symm, by rw [hF]; rfl, by unfold restsF; rw [if_neg hr]⟩, ⟨⟨?_, Sl.nil _ 1, ?_, Nat.zero_le _, facts_bd q F (by omega), (fun y hy => by cases hy), ?_⟩, own_int h.own, (fun a h' => by cases h')⟩, ?_, h.bel⟩
  · show Sl wr wr.heap.size 1 A (factsF q F).length (intV (factsF q F))
    rw [facts_len]; exact hS
  · show (factsF q F).length ≤ 1000
    rw [facts_len]; omega
  · show I64 d
    unfold I64; omega
  · rw [h.hX]
    simp [lineV, facts_len]
theorem cutR_yes {wo wr : World} {X F : Nat} {a b c d : Int} {q : Quad} {v : Value} (h : ResI wo X a b c d q F v wr) (ha : pickF q.a 36525 = a) (hb : pickF q.b 4 = b) (hc : pickF q.c 2 = c) (hd : pickF q.d 2000001 - 1000000 = d) (hF : pickF q.c 4 = (F : Int)) (hr : q.c.tmod 3 = 0) :
    CutR wo X q (.pointer (some ⟨X, 0, none⟩)) ((wr.setCell ⟨X, 5, none⟩ (.slice (some ⟨wr.heap.size, 0, none⟩) 1 1)).alloc (.cells #[.int .i64 (1 - c)] 3)) := by
  have hF4 := pickF_lt q.c 4 (by omega)
  have hd4 := pickF_lt q.d 2000001 (by omega)
  have hc4 := pickF_lt q.c 2 (by omega)
  obtain ⟨A, cap, rfl, hS⟩ := own_slice h.own
  have hXl : X < wr.heap.size := (Array.getElem?_eq_some_iff.1 h.hX).1
  obtain ⟨W, hW⟩ : ∃ W, W = wr.setCell ⟨X, 5, none⟩ (.slice (some ⟨wr.heap.size, 0, none⟩) 1 1) := ⟨_, rfl⟩
  have hWs : W.heap.size = wr.heap.size := by rw [hW]; simp [World.setCell]
  have hWk : ∀ b, b ≠ X → W.heap[b]? = wr.heap[b]? := fun b hb => by rw [hW]; exact Below.heap_setCell _ _ _ _ hb
  have gW := setCell_heap (j := 5) (v := .slice (some ⟨wr.heap.size, 0, none⟩) 1 1) h.hX
  rw [← hW] at gW ⊢
  have hB1 : Below W.heap.size W (W.alloc (.cells #[.int .i64 (1 - c)] 3)) := bal (Below.refl _ _) _
  have gX1 := (hB1.block _ (by omega)).trans gW
  have hBW : Below wo.heap.size wo W := by rw [hW]; exact h.bel.setCell h.hX3 _
  clear hW
  refine ⟨rfl, ⟨a, b, c, d, A, cap, factsF q F, some ⟨wr.heap.size, 0, none⟩, 1, [1 - c]⟩, ⟨ha.symm, hb.symm, hc.symm, hd.symm, by rw [hF]; rfl, by unfold restsF; rw [if_pos hr, hc]⟩, ⟨⟨?_, ?_, ?_, by simp, facts_bd q F (by omega), ?_, ?_⟩, ?_, ?_⟩, ?_, bgo hBW hB1⟩
  · show Sl _ _ 1 A (factsF q F).length (intV (factsF q F))
    rw [facts_len]
    refine Sl.go (sl_keep hS (by omega) fun b _ hb => hWk b ?_) hB1
    obtain ⟨off, hb⟩ := hb
    have : X + 1 ≤ b := own_far h.own _ hb
    omega
  · rw [← hWs]
    exact sl_cells (World.alloc_heap_new W _) rfl rfl
  · show (factsF q F).length ≤ 1000
    rw [facts_len]; omega
  · intro y hy
    obtain rfl := List.mem_singleton.1 hy
    unfold I64; omega
  · show I64 d
    unfold I64; omega
  · intro a h'
    obtain ⟨cs, fr, hc⟩ := own_int h.own a h'
    have hab : X + 1 ≤ a.block := own_far h.own a h'
    have hc2 := (hWk a.block (by omega)).trans hc
    exact ⟨cs, fr, (hB1.block _ (Array.getElem?_eq_some_iff.1 hc2).1).trans hc2⟩
  · rintro a h'
    injection h' with h'
    subst h'
    exact ⟨_, _, by rw [← hWs]; exact World.alloc_heap_new W _⟩
  · rw [gX1]
    simp [lineV, facts_len]
theorem gross_snoc {ls : List Quad} {k : Nat} {q : Quad} (h : ls[k]? = some q) : grossF (ls.take (k + 1)) = grossF (ls.take k) + (if pickF q.b 4 = 0 then pickF q.d 2000001 - 1000000 else 0) := by
  rw [qtake_snoc ls k q h]
  exact sum_snoc _ _ _
theorem deduct_snoc {ls : List Quad} {k : Nat} {q : Quad} (h : ls[k]? = some q) : deductF (ls.take (k + 1)) = deductF (ls.take k) + (if pickF q.b 4 = 1 then pickF q.d 2000001 - 1000000 else 0) := by
  rw [qtake_snoc ls k q h]
  exact sum_snoc _ _ _
theorem own_cells {W : World} {base : Nat} {e : TypeId} {size n : Nat} {v : Value} {xs : List Value} {b : Nat} (h : W.ownsRow base e size v n xs) (hv : v.ownBlock = some b) : ∃ cs fr, W.heap[b]? = some (.cells cs e fr) := by
  rcases h.2 with ⟨h0, _⟩ | ⟨g, cap, cur, h0, _, h2, _⟩
  · rw [h0] at hv; cases hv
  · rw [h0] at hv
    injection hv with hv
    have hv : g = b := hv
    subst hv
    exact ⟨_, _, h2⟩
theorem resJ_fin {w0 wo wd w7 W : World} {P k : Nat} {m g d : Int} {ls : List Quad} {v v7 : Value} {lines : List LineM} {x : LineM} {q : Quad} {o : Obj} (h : ResJ w0 P m ls k v lines wo) (hBo : Below wo.heap.size wo wd) (hq : ls[k]? = some q) (hx : LineIs q x) (hlt : LineT wd x)
    (kept : Kept (wd.alloc o) v w7) (own7 : w7.ownsRow (P + 1) 62 6 v7 (k + 1) (lines.flatMap lineV ++ lineV x)) (hg : grossF (ls.take (k + 1)) = g) (hd : deductF (ls.take (k + 1)) = d) (gW : W.heap[P]? = some (SlipB m v7 g 0 d (.slice none 0 0) 0)) (hW : ∀ b, b ≠ P → W.heap[b]? = w7.heap[b]?) (hs : W.heap.size = w7.heap.size)
    (hbel : Below w0.heap.size w0 W) : ResJ w0 P m ls (k + 1) v7 (lines ++ [x]) W := by
  have hBd : Below wd.heap.size wd (wd.alloc o) := bal (Below.refl _ _) _
  have hPl : P < wo.heap.size := (Array.getElem?_eq_some_iff.1 h.hP).1
  have hp0 := h.hp0
  have hko := hBo.size
  have hkd := hBd.size
  refine resJ_step h hBo hq hx hlt (by rw [hs]; exact Nat.le_trans hBd.size kept.1) ?_ (by rw [hg, hd]; exact gW) ?_ ?_ hbel
  · intro b cs fr hb
    have hbl : b < wd.heap.size := (Array.getElem?_eq_some_iff.1 hb).1
    have hbP : b ≠ P := by
      rintro rfl
      have := (hBo.block _ hPl).trans h.hP
      rw [hb] at this
      injection this with this
      injection this with _ e _
      exact absurd e (by decide)
    rw [hW b hbP, kept.2 b (Nat.lt_of_lt_of_le hbl hBd.size) (own_neT (own_below (own_below h.own hBo) hBd) ((hBd.block _ hbl).trans hb) (by decide)), hBd.block _ hbl]
  · rw [hW _ (by omega), kept.2 _ (by omega) (own_ne h.own (by omega)), hBd.block _ (by omega), hBo.block _ (by omega)]
  · exact own_to own7 fun b hb => hW b (by have := (own7.lt b hb).1; omega)
/-- Where the loop over the orders stands. -/
structure ResK (w0 : World) (P k : Nat) (m g t d nt : Int) (v : Value) (lines : List LineM) (os : List Int) (j : Nat) (tv : Value) (wr : World) : Prop where
  hP : wr.heap[P]? = some (SlipB m v g t d tv (nt - takenSum (os.take j)))
  hR : wr.heap[w0.heap.size]? = some (.cells #[.string ⟨#[]⟩, .int .i64 0, .slice none 0 0, .int .i64 0, .int .i64 0, .int .i64 0, .int .i64 0, .slice none 0 0, .int .i64 0] 37 (0, 0))
  ln : wr.ownsRow (P + 1) 62 6 v k (lines.flatMap lineV)
  tk : wr.ownsRow (P + 1) 78 2 tv j ((takenF (os.take j)).flatMap takenV)
  ok : ∀ x ∈ lines, LineT wr x
  bel : Below w0.heap.size w0 wr
  hp0 : w0.heap.size + 1 ≤ P
theorem takenF_snoc {os : List Int} {j : Nat} {x : Int} (h : os[j]? = some x) : takenF (os.take (j + 1)) = takenF (os.take j) ++ [((j : Int) + 1, pickF x 1000)] := by
  have hj : j < os.length := (List.getElem?_eq_some_iff.1 h).1
  have hl : (os.take j).length = j := by rw [List.length_take]; omega
  have e : os.take (j + 1) = os.take j ++ [x] := by rw [List.take_add_one, h]; rfl
  have hx : ((os.take j) ++ [x]).getD j 0 = x := by simp [List.getD, List.getElem?_append_right, hl]
  unfold takenF
  rw [e, List.length_append, List.length_singleton, hl, List.range_succ, List.map_append, List.map_singleton, hx]
  congr 1
  refine List.map_congr_left fun i hi => ?_
  have hi' : i < j := List.mem_range.1 hi
  have : ((os.take j) ++ [x]).getD i 0 = (os.take j).getD i 0 := by
    simp only [List.getD]
    rw [List.getElem?_append_left (by omega)]
  rw [this]
theorem takenSum_snoc {os : List Int} {j : Nat} {x : Int} (h : os[j]? = some x) : takenSum (os.take (j + 1)) = takenSum (os.take j) + pickF x 1000 := by
  have e : os.take (j + 1) = os.take j ++ [x] := by rw [List.take_add_one, h]; rfl
  unfold takenSum
  rw [e, List.map_append, List.sum_append, List.map_singleton, List.sum_singleton]
theorem takenSum_bd (os : List Int) (j : Nat) (h : j ≤ 5) : 0 ≤ takenSum (os.take j) ∧ takenSum (os.take j) ≤ 5000 := by
  have hb : ∀ l : List Int, 0 ≤ takenSum l ∧ takenSum l ≤ 1000 * (l.length : Int) := by
    intro l
    induction l with
    | nil => simp [takenSum]
    | cons x l ih =>
      have h2 := pickF_lt x 1000 (by omega)
      have e : takenSum (x :: l) = pickF x 1000 + takenSum l := by simp [takenSum]
      rw [e, List.length_cons]
      omega
  have h1 := hb (os.take j)
  have h2 : (os.take j).length ≤ 5 := by rw [List.length_take]; omega
  omega
theorem resK_fin {w0 wd w7 W wr : World} {P k j : Nat} {m g t d nt pv : Int} {v tv v7 : Value} {lines : List LineM} {os : List Int} {x : Int} (h : ResK w0 P k m g t d nt v lines os j tv wr) (hBd : Below wr.heap.size wr wd) (hx : os[j]? = some x) (hpv : pickF x 1000 = pv)
    (kept : Kept wd tv w7) (own7 : w7.ownsRow (P + 1) 78 2 v7 (j + 1) ((takenF (os.take j)).flatMap takenV ++ [.int .i64 ((j : Int) + 1), .int .i64 pv])) (gW : W.heap[P]? = some (SlipB m v g t d v7 (nt - takenSum (os.take j) - pv))) (hW : ∀ b, b ≠ P → W.heap[b]? = w7.heap[b]?) (hs : W.heap.size = w7.heap.size)
    (hbel : Below w0.heap.size w0 W) : ResK w0 P k m g t d nt v lines os (j + 1) v7 W := by
  have hPl : P < wr.heap.size := (Array.getElem?_eq_some_iff.1 h.hP).1
  have hp0 := h.hp0
  have hkd := hBd.size
  have htk := own_below h.tk hBd
  refine ⟨?_, ?_, ?_, ?_, ?_, hbel, hp0⟩
  · rw [takenSum_snoc hx, hpv, gW]
    rw [show nt - takenSum (os.take j) - pv = nt - (takenSum (os.take j) + pv) by omega]
  · rw [hW _ (by omega), kept.2 _ (by omega) (own_ne h.tk (by omega)), hBd.block _ (by omega)]
    exact h.hR
  · refine own_to h.ln fun b hb => ?_
    obtain ⟨cs, fr, hc⟩ := own_cells h.ln hb
    have hbl : b < wr.heap.size := (Array.getElem?_eq_some_iff.1 hc).1
    have := (h.ln.lt b hb).1
    rw [hW b (by omega), kept.2 b (by omega) (own_neT htk ((hBd.block _ hbl).trans hc) (by decide)), hBd.block _ hbl]
  · rw [takenF_snoc hx, List.flatMap_append, hpv]
    have : (List.flatMap takenV [((j : Int) + 1, pv)]) = [.int .i64 ((j : Int) + 1), .int .i64 pv] := rfl
    rw [this]
    exact own_to own7 fun b hb => hW b (by have := (own7.lt b hb).1; omega)
  · intro y hy
    refine lineT_keep (h.ok y hy) (by rw [hs]; exact Nat.le_trans hkd kept.1) fun b cs fr hb => ?_
    have hbl : b < wr.heap.size := (Array.getElem?_eq_some_iff.1 hb).1
    have hbP : b ≠ P := by
      rintro rfl
      have := h.hP
      rw [hb] at this
      injection this with this
      injection this with _ e _
      exact absurd e (by decide)
    rw [hW b hbP, kept.2 b (by omega) (own_neT htk ((hBd.block _ hbl).trans hb) (by decide)), hBd.block _ hbl]
theorem heap_set9 (W : World) (X b : Nat) (v0 v1 v2 v3 v4 v5 v6 v7 v8 : Value) (h : b ≠ X) : (((((((((W.setCell ⟨X, 0, none⟩ v0).setCell ⟨X, 1, none⟩ v1).setCell ⟨X, 2, none⟩ v2).setCell ⟨X, 3, none⟩ v3).setCell ⟨X, 4, none⟩ v4).setCell ⟨X, 5, none⟩ v5).setCell ⟨X, 6, none⟩ v6).setCell ⟨X, 7, none⟩ v7).setCell ⟨X, 8, none⟩ v8).heap[b]? = W.heap[b]? :=
  (Below.heap_setCell _ _ _ _ h).trans ((Below.heap_setCell _ _ _ _ h).trans ((Below.heap_setCell _ _ _ _ h).trans (heap_set6 W X b v0 v1 v2 v3 v4 v5 h)))
theorem res_final {w wr W : World} {P k j N M R : Nat} {m month g d t nt : Int} {ls : List Quad} {os : List Int} {lines : List LineM} {LA1 TA1 : Option Addr} {lc1 tc1 : Nat} (hR : R = w.heap.size) (hN : ls.length = N) (hM : os.length = M) (hJl : lines.length = k) (hJa : ∀ (j : Nat) (x : LineM) (q : Quad), lines[j]? = some x → ls[j]? = some q → LineIs q x)
    (hK : ResK w P k m g t d (g - t - d) (.slice LA1 k lc1) lines os j (.slice TA1 j tc1) wr) (hm : pickF month 1200 = m) (hg : grossF (ls.take 20) = g) (hd : deductF (ls.take 20) = d) (ht : g.tdiv 5 = t) (htk : ls.take k = ls.take 20) (hos5 : os.take j = os.take 5) (hkN : k ≤ N) (hk20 : k ≤ 20) (hjM : j ≤ M) (hj5 : j ≤ 5)
    (hnt : g - t - d - takenSum (os.take j) = nt) (hos : ∀ x ∈ os, I64 x) (hW : ∀ b, b ≠ R → W.heap[b]? = wr.heap[b]?) (hs : W.heap.size = wr.heap.size) (hbel : Below w.heap.size w W) :
    ResP w month ls os (.returned (.agg #[.string ⟨#[97, 110, 110]⟩, .int .i64 m, .slice LA1 k lc1, .int .i64 g, .int .i64 t, .int .i64 d, .int .i64 0, .slice TA1 j tc1, .int .i64 nt])) W := by
  have hp0 := hK.hp0
  have hgb := gross_bound (ls.take 20)
  have hdb := deduct_bound (ls.take 20)
  have hll : (ls.take 20).length ≤ 20 := by rw [List.length_take]; omega
  have htb := takenSum_bd os j hj5
  have hmb := pickF_lt month 1200 (by omega)
  rw [hg] at hgb
  rw [hd] at hdb
  have htt : -20000000 ≤ t ∧ t ≤ 20000000 := by
    rw [← ht]
    by_cases hg0 : 0 ≤ g
    · rw [Int.tdiv_eq_ediv_of_nonneg hg0]; omega
    · obtain ⟨q, hq⟩ : ∃ q : Int, g = -q := ⟨-g, by omega⟩
      rw [hq, Int.neg_tdiv, Int.tdiv_eq_ediv_of_nonneg (by omega)]; omega
  obtain ⟨_, _, e1, hSl⟩ := own_slice hK.ln
  injection e1 with e1 _ e2
  subst e1; subst e2
  obtain ⟨_, _, e1, hSt⟩ := own_slice hK.tk
  injection e1 with e1 _ e2
  subst e1; subst e2
  have htl : (takenF (os.take j)).length = j := by
    unfold takenF
    rw [List.length_map, List.length_range, List.length_take]; omega
  refine ⟨⟨annB, m, LA1, lc1, lines, g, t, d, 0, TA1, tc1, takenF (os.take j), nt⟩, ?_, ⟨?_, ?_, ?_, (show annB.size ≤ 70000000000000 by decide), ?_, ?_, ?_, ?_, ?_, ?_, ?_, ?_, ?_⟩, ⟨rfl, hm.symm, ?_, ?_, hg.symm, hd.symm, ht.symm, rfl, ?_, ?_⟩, ?_, hbel⟩
  · unfold slipV
    dsimp only
    rw [hJl, htl]
    rfl
  · dsimp only
    rw [hJl]
    refine sl_keep hSl (by omega) fun b _ hb => hW b ?_
    obtain ⟨off, hb⟩ := hb
    have : P + 1 ≤ b := own_far hK.ln _ hb
    omega
  · dsimp only
    rw [htl]
    refine sl_keep hSt (by omega) fun b _ hb => hW b ?_
    obtain ⟨off, hb⟩ := hb
    have : P + 1 ≤ b := own_far hK.tk _ hb
    omega
  · intro x hx
    refine (lineT_keep (hK.ok x hx) (by omega) fun b cs fr hb => hW b ?_).ok
    rintro rfl
    have := hK.hR
    rw [← hR, hb] at this
    injection this with this
    injection this with _ e _
    exact absurd e (by decide)
  · show I64 m
    unfold I64; omega
  · show lines.length ≤ 1000000
    omega
  · show (takenF (os.take j)).length ≤ 1000000
    omega
  · intro x hx
    obtain ⟨i, hi, rfl⟩ := List.mem_map.1 hx
    have hi' := List.mem_range.1 hi
    rw [List.length_take] at hi'
    have := pickF_lt ((os.take j).getD i 0) 1000 (by omega)
    unfold I64
    dsimp only
    omega
  · show I64 g
    unfold I64; omega
  · show I64 t
    unfold I64; omega
  · show I64 d
    unfold I64; omega
  · show I64 0
    unfold I64; omega
  · show I64 nt
    unfold I64; omega
  · show lines.length = _
    rw [← htk, List.length_take]; omega
  · intro i x q hx hq
    refine hJa i x q hx ?_
    rw [List.getElem?_take] at hq
    split at hq
    · exact hq
    · cases hq
  · show takenF (os.take j) = _
    rw [hos5]
  · show nt = g - t - d - _
    rw [← hnt, hos5]
  · show lines.length ≤ lc1 ∧ lc1 ≤ maxLen
    rw [hJl]
    exact slice_cap hK.ln
set_option maxHeartbeats 4000000 in
theorem result_any (month : Int) (LA : Option Addr) (lc : Nat) (ls : List Quad) (OA : Option Addr) (oc : Nat) (os : List Int) (w : World) (hm : I64 month) (hls : ∀ q ∈ ls, QuadOk q) (hos : ∀ x ∈ os, I64 x) (hL : Sl w w.heap.size 4 LA ls.length (ls.flatMap quadV)) (hO : Sl w w.heap.size 1 OA os.length (intV os)) (hl63 : ls.length ≤ maxLen) (ho63 : os.length ≤ maxLen) :
    Calls Tryd.prog 7 #[.int .i64 month, .slice LA ls.length lc, .slice OA os.length oc] w (ResP w month ls os) := by
  obtain ⟨N, hN⟩ : ∃ N, ls.length = N := ⟨_, rfl⟩
  obtain ⟨M, hM⟩ : ∃ M, os.length = M := ⟨_, rfl⟩
  rw [hN, hM]
  have HL := Lib.hid (hN ▸ hL : Sl w w.heap.size 4 LA N (ls.flatMap quadV))
  have HO := Lib.hid (hM ▸ hO : Sl w w.heap.size 1 OA M (intV os))
  have HN := Lib.hid hN
  have HM := Lib.hid hM
  rw [hN] at hl63
  rw [hM] at ho63
  unfold maxLen at hl63 ho63
  have hN0 : 0 ≤ N := Nat.zero_le _
  obtain ⟨m, hm1⟩ : ∃ m, pickF month 1200 = m := ⟨_, rfl⟩
  have Hm := Lib.hid hm1
  clear hL hO hN hM hm1
  go_enter Tryd.func7, Tryd.ntmps7
  go_wp2_with fail
  (with_reducible refine (pick_at month 1200 m Hm _ hm (by decide) (by decide)).mono ?_)
  rintro e w1 ⟨rfl, hw1⟩
  obtain rfl := hw1
  obtain ⟨P, hP⟩ : ∃ P, P = w.heap.size + 1 := ⟨_, rfl⟩
  obtain ⟨W1, hW1⟩ : ∃ x, x = (w.alloc (.cells #[.string ⟨#[]⟩, .int .i64 0, .slice none 0 0, .int .i64 0, .int .i64 0, .int .i64 0, .int .i64 0, .slice none 0 0, .int .i64 0] 37)).alloc (.cells #[.string ⟨#[97, 110, 110]⟩, .int .i64 m, .slice none 0 0, .int .i64 0, .int .i64 0, .int .i64 0, .int .i64 0, .slice none 0 0, .int .i64 0] 37) := ⟨_, rfl⟩
  have hJ0 : ResJ w P m ls 0 (.slice none 0 0) [] W1 := by
    refine ⟨?_, ?_, ⟨rfl, .inl ⟨rfl, rfl⟩⟩, rfl, (fun j x q h => by simp at h), (fun x h => by cases h), (by rw [hW1]; exact bal (bal (Below.refl _ _) _) _), (by omega)⟩
    · rw [hW1, hP]
      exact heap_alloc2_new w _ _
    · rw [hW1]
      exact heap_alloc2_old w _ _
  have HJ0 := Lib.hid hJ0
  go_wp2_with fail
  rw [← hW1, ← hP]
  clear hJ0 hW1 hP
  go_loopw [8] (fun q wr => ∃ k : Nat, k ≤ N ∧ k ≤ 20 ∧ q = .int .i64 (k : Int) ∧ ∃ v lines, ResJ w P m ls k v lines wr) (fun q _ => 20 - (intOf q).toNat)
  case atStart => exact ⟨0, by omega, by omega, rfl, _, _, HJ0.out⟩
  case round =>
    obtain ⟨wo, hwo⟩ : ∃ x, x = wr := ⟨_, rfl⟩
    subst hwo
    obtain ⟨k, hkN, hk20, rfl, v, lines, hJ⟩ := hrel
    have HJ := Lib.hid hJ
    clear hJ
    by_cases hlt : k < N ∧ k < 20
    · have hlt1 : (k : Int) < (N : Int) := by omega
      have hlt2 : (k : Int) < 20 := by omega
      obtain ⟨q, hq⟩ : ∃ q, ls[k]? = some q := ⟨_, List.getElem?_eq_getElem (by rw [HN.out]; omega)⟩
      have hqo := hls q (List.mem_of_getElem? hq)
      obtain ⟨lb, lo, eL, hlb, hcl⟩ := HL.out.2 (by omega)
      subst eL
      obtain ⟨qa, qb, qc, qd⟩ := q
      obtain ⟨Qa, Qb, Qc, Qd⟩ := hqo
      dsimp only at Qa Qb Qc Qd
      have hC : QuadAt wo lb (lo + k * 4) ⟨qa, qb, qc, qd⟩ := quad_at hq hcl HJ.out.bel hlb
      obtain ⟨pa, hpa⟩ : ∃ v, pickF qa 36525 = v := ⟨_, rfl⟩
      obtain ⟨pb, hpb⟩ : ∃ v, pickF qb 4 = v := ⟨_, rfl⟩
      obtain ⟨pc, hpc⟩ : ∃ v, pickF qc 2 = v := ⟨_, rfl⟩
      obtain ⟨pd, hpd⟩ : ∃ v, pickF qd 2000001 = v := ⟨_, rfl⟩
      have hpd1 := pickF_lt qd 2000001 (by omega)
      have hpc1 := pickF_lt qc 2 (by omega)
      rw [hpd] at hpd1
      rw [hpc] at hpc1
      have hwr : IntKind.i64.wrap (pd - 1000000) = pd - 1000000 := IntWalk.i64_in _ (by omega)
      have Ha := Lib.hid hpa
      have Hb := Lib.hid hpb
      have Hc := Lib.hid hpc
      have Hd := Lib.hid hpd
      have Hq := Lib.hid hq
      have HcL := Lib.hid hcl
      have hD0 : Below wo.drew.heap.size wo.drew wo.drew := Below.refl _ _
      have HC := Lib.hid hC
      clear hpa hpb hpc hpd hq hcl hC
      have hlbr : lb < wo.heap.size := Nat.lt_of_lt_of_le hlb HJ.out.bel.size
      go_wp2_with fail
      go_cut [9] (fun s9 wx => Cut5 wo pa pb pc (pd - 1000000) s9 wx)
      case first =>
        refine wp_region_noPanic ?_
        refine wp_region_held_drew (S := fun W' => QuadAt W' lb (lo + k * 4) ⟨qa, qb, qc, qd⟩) (by kernel_rfl) HC.out.drew (fun hHeld => ?_)
        refine wpAnyH_take (i := 0) (v := ?_) rfl (by kernel_rfl) (by kernel_rfl) (by kernel_rfl) (fun _ _ _ h => h) (Or.inl ⟨by kernel_rfl, ?_⟩) (by assumption) ?_
        rotate_left
        · intro w hSw
          (try dsimp only at hSw)
          go_simp
          first | done | with_reducible rfl
        simp only [List.getElem_toArray, List.getElem_cons_zero, List.getElem_cons_succ, Act.put, List.setIfInBounds_toArray, List.set_cons_zero, List.set_cons_succ]
        refine wpAnyH_take (i := 1) (v := ?_) rfl (by kernel_rfl) (by kernel_rfl) (by kernel_rfl) (fun _ _ _ h => h) (Or.inl ⟨by kernel_rfl, ?_⟩) (by assumption) ?_
        rotate_left
        · intro w hSw
          (try dsimp only at hSw)
          go_simp
          first | done | with_reducible rfl
        simp only [List.getElem_toArray, List.getElem_cons_zero, List.getElem_cons_succ, Act.put, List.setIfInBounds_toArray, List.set_cons_zero, List.set_cons_succ]
        refine wpAnyH_take (i := 2) (v := ?_) rfl (by kernel_rfl) (by kernel_rfl) (by kernel_rfl) (fun _ _ _ h => h) (Or.inl ⟨by kernel_rfl, ?_⟩) (by assumption) ?_
        rotate_left
        · intro w hSw
          (try dsimp only at hSw)
          go_simp
          first | done | with_reducible rfl
        simp only [List.getElem_toArray, List.getElem_cons_zero, List.getElem_cons_succ, Act.put, List.setIfInBounds_toArray, List.set_cons_zero, List.set_cons_succ]
        refine wpAnyH_take (i := 3) (v := ?_) rfl (by kernel_rfl) (by kernel_rfl) (by kernel_rfl) (fun _ _ _ h => h) (Or.inl ⟨by kernel_rfl, ?_⟩) (by assumption) ?_
        rotate_left
        · intro w hSw
          (try dsimp only at hSw)
          go_simp
          first | done | with_reducible rfl
        simp only [List.getElem_toArray, List.getElem_cons_zero, List.getElem_cons_succ, Act.put, List.setIfInBounds_toArray, List.set_cons_zero, List.set_cons_succ]
        refine wpAnyH_take (i := 4) (v := ?_) rfl (by kernel_rfl) (by kernel_rfl) (by kernel_rfl) (fun _ _ _ h => h) (Or.inl ⟨by kernel_rfl, ?_⟩) (by assumption) ?_
        rotate_left
        · intro w hSw
          (try dsimp only at hSw)
          have z := hSw.za
          dsimp only at z
          go_simp
          first | done | with_reducible rfl
        simp only [List.getElem_toArray, List.getElem_cons_zero, List.getElem_cons_succ, Act.put, List.setIfInBounds_toArray, List.set_cons_zero, List.set_cons_succ]
        refine wpAnyH_take (i := 6) (v := ?_) rfl (by kernel_rfl) (by kernel_rfl) (by kernel_rfl) (fun _ _ _ h => h) (Or.inl ⟨by kernel_rfl, ?_⟩) (by assumption) ?_
        rotate_left
        · intro w hSw
          (try dsimp only at hSw)
          go_simp
          first | done | with_reducible rfl
        simp only [List.getElem_toArray, List.getElem_cons_zero, List.getElem_cons_succ, Act.put, List.setIfInBounds_toArray, List.set_cons_zero, List.set_cons_succ]
        refine wpAnyH_take (i := 7) (v := ?_) rfl (by kernel_rfl) (by kernel_rfl) (by kernel_rfl) (fun _ _ _ h => h) (Or.inl ⟨by kernel_rfl, ?_⟩) (by assumption) ?_
        rotate_left
        · intro w hSw
          (try dsimp only at hSw)
          go_simp
          first | done | with_reducible rfl
        simp only [List.getElem_toArray, List.getElem_cons_zero, List.getElem_cons_succ, Act.put, List.setIfInBounds_toArray, List.set_cons_zero, List.set_cons_succ]
        refine wpAnyH_take (i := 8) (v := ?_) rfl (by kernel_rfl) (by kernel_rfl) (by kernel_rfl) (fun _ _ _ h => h) (Or.inl ⟨by kernel_rfl, ?_⟩) (by assumption) ?_
        rotate_left
        · intro w hSw
          (try dsimp only at hSw)
          go_simp
          first | done | with_reducible rfl
        simp only [List.getElem_toArray, List.getElem_cons_zero, List.getElem_cons_succ, Act.put, List.setIfInBounds_toArray, List.set_cons_zero, List.set_cons_succ]
        refine wpAnyH_take (i := 9) (v := ?_) rfl (by kernel_rfl) (by kernel_rfl) (by kernel_rfl) (fun _ _ _ h => h) (Or.inl ⟨by kernel_rfl, ?_⟩) (by assumption) ?_
        rotate_left
        · intro w hSw
          (try dsimp only at hSw)
          go_simp
          first | done | with_reducible rfl
        simp only [List.getElem_toArray, List.getElem_cons_zero, List.getElem_cons_succ, Act.put, List.setIfInBounds_toArray, List.set_cons_zero, List.set_cons_succ]
        refine wpAnyH_take (i := 10) (v := ?_) rfl (by kernel_rfl) (by kernel_rfl) (by kernel_rfl) (fun _ _ _ h => h) (Or.inl ⟨by kernel_rfl, ?_⟩) (by assumption) ?_
        rotate_left
        · intro w hSw
          (try dsimp only at hSw)
          have z := hSw.zb
          dsimp only at z
          go_simp
          first | done | with_reducible rfl
        simp only [List.getElem_toArray, List.getElem_cons_zero, List.getElem_cons_succ, Act.put, List.setIfInBounds_toArray, List.set_cons_zero, List.set_cons_succ]
        refine wpAnyH_take (i := 12) (v := ?_) rfl (by kernel_rfl) (by kernel_rfl) (by kernel_rfl) (fun _ _ _ h => h) (Or.inl ⟨by kernel_rfl, ?_⟩) (by assumption) ?_
        rotate_left
        · intro w hSw
          (try dsimp only at hSw)
          go_simp
          first | done | with_reducible rfl
        simp only [List.getElem_toArray, List.getElem_cons_zero, List.getElem_cons_succ, Act.put, List.setIfInBounds_toArray, List.set_cons_zero, List.set_cons_succ]
        refine wpAnyH_take (i := 13) (v := ?_) rfl (by kernel_rfl) (by kernel_rfl) (by kernel_rfl) (fun _ _ _ h => h) (Or.inl ⟨by kernel_rfl, ?_⟩) (by assumption) ?_
        rotate_left
        · intro w hSw
          (try dsimp only at hSw)
          go_simp
          first | done | with_reducible rfl
        simp only [List.getElem_toArray, List.getElem_cons_zero, List.getElem_cons_succ, Act.put, List.setIfInBounds_toArray, List.set_cons_zero, List.set_cons_succ]
        refine wpAnyH_take (i := 14) (v := ?_) rfl (by kernel_rfl) (by kernel_rfl) (by kernel_rfl) (fun _ _ _ h => h) (Or.inl ⟨by kernel_rfl, ?_⟩) (by assumption) ?_
        rotate_left
        · intro w hSw
          (try dsimp only at hSw)
          go_simp
          first | done | with_reducible rfl
        simp only [List.getElem_toArray, List.getElem_cons_zero, List.getElem_cons_succ, Act.put, List.setIfInBounds_toArray, List.set_cons_zero, List.set_cons_succ]
        refine wpAnyH_take (i := 15) (v := ?_) rfl (by kernel_rfl) (by kernel_rfl) (by kernel_rfl) (fun _ _ _ h => h) (Or.inl ⟨by kernel_rfl, ?_⟩) (by assumption) ?_
        rotate_left
        · intro w hSw
          (try dsimp only at hSw)
          go_simp
          first | done | with_reducible rfl
        simp only [List.getElem_toArray, List.getElem_cons_zero, List.getElem_cons_succ, Act.put, List.setIfInBounds_toArray, List.set_cons_zero, List.set_cons_succ]
        refine wpAnyH_take (i := 16) (v := ?_) rfl (by kernel_rfl) (by kernel_rfl) (by kernel_rfl) (fun _ _ _ h => h) (Or.inl ⟨by kernel_rfl, ?_⟩) (by assumption) ?_
        rotate_left
        · intro w hSw
          (try dsimp only at hSw)
          have z := hSw.zc
          dsimp only at z
          go_simp
          first | done | with_reducible rfl
        simp only [List.getElem_toArray, List.getElem_cons_zero, List.getElem_cons_succ, Act.put, List.setIfInBounds_toArray, List.set_cons_zero, List.set_cons_succ]
        refine wpAnyH_take (i := 18) (v := ?_) rfl (by kernel_rfl) (by kernel_rfl) (by kernel_rfl) (fun _ _ _ h => h) (Or.inl ⟨by kernel_rfl, ?_⟩) (by assumption) ?_
        rotate_left
        · intro w hSw
          (try dsimp only at hSw)
          go_simp
          first | done | with_reducible rfl
        simp only [List.getElem_toArray, List.getElem_cons_zero, List.getElem_cons_succ, Act.put, List.setIfInBounds_toArray, List.set_cons_zero, List.set_cons_succ]
        refine wpAnyH_take (i := 19) (v := ?_) rfl (by kernel_rfl) (by kernel_rfl) (by kernel_rfl) (fun _ _ _ h => h) (Or.inl ⟨by kernel_rfl, ?_⟩) (by assumption) ?_
        rotate_left
        · intro w hSw
          (try dsimp only at hSw)
          go_simp
          first | done | with_reducible rfl
        simp only [List.getElem_toArray, List.getElem_cons_zero, List.getElem_cons_succ, Act.put, List.setIfInBounds_toArray, List.set_cons_zero, List.set_cons_succ]
        refine wpAnyH_take (i := 20) (v := ?_) rfl (by kernel_rfl) (by kernel_rfl) (by kernel_rfl) (fun _ _ _ h => h) (Or.inl ⟨by kernel_rfl, ?_⟩) (by assumption) ?_
        rotate_left
        · intro w hSw
          (try dsimp only at hSw)
          go_simp
          first | done | with_reducible rfl
        simp only [List.getElem_toArray, List.getElem_cons_zero, List.getElem_cons_succ, Act.put, List.setIfInBounds_toArray, List.set_cons_zero, List.set_cons_succ]
        refine wpAnyH_take (i := 21) (v := ?_) rfl (by kernel_rfl) (by kernel_rfl) (by kernel_rfl) (fun _ _ _ h => h) (Or.inl ⟨by kernel_rfl, ?_⟩) (by assumption) ?_
        rotate_left
        · intro w hSw
          (try dsimp only at hSw)
          go_simp
          first | done | with_reducible rfl
        simp only [List.getElem_toArray, List.getElem_cons_zero, List.getElem_cons_succ, Act.put, List.setIfInBounds_toArray, List.set_cons_zero, List.set_cons_succ]
        refine wpAnyH_take (i := 22) (v := ?_) rfl (by kernel_rfl) (by kernel_rfl) (by kernel_rfl) (fun _ _ _ h => h) (Or.inl ⟨by kernel_rfl, ?_⟩) (by assumption) ?_
        rotate_left
        · intro w hSw
          (try dsimp only at hSw)
          have z := hSw.zd
          dsimp only at z
          go_simp
          first | done | with_reducible rfl
        simp only [List.getElem_toArray, List.getElem_cons_zero, List.getElem_cons_succ, Act.put, List.setIfInBounds_toArray, List.set_cons_zero, List.set_cons_succ]
        refine wpAnyH_ready (rs := [5, 26]) (by kernel_rfl) (by simp) ?_
        refine AllReadyH.cons rfl (fun K hK => ?_) ?_
        · simp only [List.getElem_toArray, List.getElem_cons_zero, List.getElem_cons_succ]
          go_simp
          (with_reducible refine (pick_at qa 36525 pa Ha _ Qa (by decide) (by decide)).mono ?_)
          rintro e wq ⟨rfl, hwq⟩
          obtain rfl := hwq
          dsimp only
          refine hK.out _ _ HC.out.drew (fun hHeld => ?_)
          clear hK K
          try simp only [List.getElem_toArray, List.getElem_cons_zero, List.getElem_cons_succ, Act.put, List.setIfInBounds_toArray, List.set_cons_zero, List.set_cons_succ]
          refine wpAnyH_ready (rs := [11, 26]) (by kernel_rfl) (by simp) ?_
          refine AllReadyH.cons rfl (fun K hK => ?_) ?_
          · simp only [List.getElem_toArray, List.getElem_cons_zero, List.getElem_cons_succ]
            go_simp
            (with_reducible refine (pick_at qb 4 pb Hb _ Qb (by decide) (by decide)).mono ?_)
            rintro e wq ⟨rfl, hwq⟩
            obtain rfl := hwq
            dsimp only
            refine hK.out _ _ HC.out.drew (fun hHeld => ?_)
            clear hK K
            try simp only [List.getElem_toArray, List.getElem_cons_zero, List.getElem_cons_succ, Act.put, List.setIfInBounds_toArray, List.set_cons_zero, List.set_cons_succ]
            refine wpAnyH_ready (rs := [17, 26]) (by kernel_rfl) (by simp) ?_
            refine AllReadyH.cons rfl (fun K hK => ?_) ?_
            · simp only [List.getElem_toArray, List.getElem_cons_zero, List.getElem_cons_succ]
              go_simp
              (with_reducible refine (pick_at qc 2 pc Hc _ Qc (by decide) (by decide)).mono ?_)
              rintro e wq ⟨rfl, hwq⟩
              obtain rfl := hwq
              dsimp only
              refine hK.out _ _ HC.out.drew (fun hHeld => ?_)
              clear hK K
              try simp only [List.getElem_toArray, List.getElem_cons_zero, List.getElem_cons_succ, Act.put, List.setIfInBounds_toArray, List.set_cons_zero, List.set_cons_succ]
              refine wpAnyH_ready (rs := [23, 26]) (by kernel_rfl) (by simp) ?_
              refine AllReadyH.cons rfl (fun K hK => ?_) ?_
              · simp only [List.getElem_toArray, List.getElem_cons_zero, List.getElem_cons_succ]
                go_simp
                (with_reducible refine (pick_at qd 2000001 pd Hd _ Qd (by decide) (by decide)).mono ?_)
                rintro e wq ⟨rfl, hwq⟩
                obtain rfl := hwq
                dsimp only
                refine hK.out _ _ HC.out.drew (fun hHeld => ?_)
                clear hK K
                try simp only [List.getElem_toArray, List.getElem_cons_zero, List.getElem_cons_succ, Act.put, List.setIfInBounds_toArray, List.set_cons_zero, List.set_cons_succ]
                refine wpAnyH_take (i := 24) (v := ?_) rfl (by kernel_rfl) (by kernel_rfl) (by kernel_rfl) (fun _ _ _ h => h) (Or.inl ⟨by kernel_rfl, ?_⟩) (by assumption) ?_
                rotate_left
                · intro w hSw
                  (try dsimp only at hSw)
                  go_simp
                  first | done | with_reducible rfl
                simp only [List.getElem_toArray, List.getElem_cons_zero, List.getElem_cons_succ, Act.put, List.setIfInBounds_toArray, List.set_cons_zero, List.set_cons_succ]
                refine wpAnyH_take (i := 25) (v := ?_) rfl (by kernel_rfl) (by kernel_rfl) (by kernel_rfl) (fun _ _ _ h => h) (Or.inl ⟨by kernel_rfl, ?_⟩) (by assumption) ?_
                rotate_left
                · intro w hSw
                  (try dsimp only at hSw)
                  go_simp
                  first | done | with_reducible rfl
                simp only [List.getElem_toArray, List.getElem_cons_zero, List.getElem_cons_succ, Act.put, List.setIfInBounds_toArray, List.set_cons_zero, List.set_cons_succ]
                refine wpAnyH_ready (rs := [26]) (by kernel_rfl) (by simp) ?_
                refine AllReadyH.cons rfl (fun K hK => ?_) ?_
                · simp only [List.getElem_toArray, List.getElem_cons_zero, List.getElem_cons_succ]
                  go_simp
                  obtain ⟨X, hX⟩ : ∃ x, x = wo.heap.size := ⟨_, rfl⟩
                  obtain ⟨w5, hw5⟩ : ∃ x, x = (wo.alloc (.cells #[.int .i64 0, .int .i64 0, .int .i64 0, .int .i64 0, .slice none 0 0, .slice none 0 0] 62)).drew := ⟨_, rfl⟩
                  rw [← hw5, ← hX]
                  have bel5 : Below wo.heap.size wo w5 := by rw [hw5]; exact (bal (Below.refl wo.heap.size wo) _).drew
                  have gX5 : w5.heap[X]? = some (.cells #[.int .i64 0, .int .i64 0, .int .i64 0, .int .i64 0, .slice none 0 0, .slice none 0 0] 62) := by rw [hw5, hX]; exact World.alloc_heap_new wo _
                  have hX3 : wo.heap.size ≤ X := by omega
                  have S_511172326 : QuadAt w5 lb (lo + k * 4) ⟨qa, qb, qc, qd⟩ := HC.out.go (bel5.block _ hlbr)
                  have hneX : lb ≠ X := by omega
                  clear hw5 hX
                  refine hK.out _ _ S_511172326 (fun hHeld => ?_)
                  clear hK K
                  try simp only [List.getElem_toArray, List.getElem_cons_zero, List.getElem_cons_succ, Act.put, List.setIfInBounds_toArray, List.set_cons_zero, List.set_cons_succ]
                  refine wpAnyH_ready (rs := [27]) (by kernel_rfl) (by simp) ?_
                  refine AllReadyH.cons rfl (fun K hK => ?_) ?_
                  · simp only [List.getElem_toArray, List.getElem_cons_zero, List.getElem_cons_succ]
                    have x0 : w5.cell? ⟨X, 0, none⟩ = some (.int .i64 0) := by rw [Lib.cell_of_heap gX5]; rfl
                    have x1 : w5.cell? ⟨X, 1, none⟩ = some (.int .i64 0) := by rw [Lib.cell_of_heap gX5]; rfl
                    have x2 : w5.cell? ⟨X, 2, none⟩ = some (.int .i64 0) := by rw [Lib.cell_of_heap gX5]; rfl
                    have x3 : w5.cell? ⟨X, 3, none⟩ = some (.int .i64 0) := by rw [Lib.cell_of_heap gX5]; rfl
                    have x4 : w5.cell? ⟨X, 4, none⟩ = some (.slice none 0 0) := by rw [Lib.cell_of_heap gX5]; rfl
                    have x5 : w5.cell? ⟨X, 5, none⟩ = some (.slice none 0 0) := by rw [Lib.cell_of_heap gX5]; rfl
                    have yX : ∀ j, w5.frozen? ⟨X, j, none⟩ = false := fun j => Lib.frozen_of_heap gX5 j
                    go_simp
                    clear x0 x1 x2 x3 x4 x5 yX
                    refine hK.out _ _ (S_511172326.go (heap_set6 _ _ _ _ _ _ _ _ _ hneX)) (fun hHeld => ?_)
                    clear hK K
                    try simp only [List.getElem_toArray, List.getElem_cons_zero, List.getElem_cons_succ, Act.put, List.setIfInBounds_toArray, List.set_cons_zero, List.set_cons_succ]
                    refine wpAnyH_done (by kernel_rfl) ?_ _
                    dsimp only [NoPanic]
                    clear hHeld
                    go_wp2_with fail
                    go_meet
                    exact cut5_of gX5 rfl hX3 bel5
                  exact AllReadyH.nil
                exact AllReadyH.nil
              refine AllReadyH.cons rfl (fun K hK => ?_) ?_
              · simp only [List.getElem_toArray, List.getElem_cons_zero, List.getElem_cons_succ]
                go_simp
                obtain ⟨X, hX⟩ : ∃ x, x = wo.heap.size := ⟨_, rfl⟩
                obtain ⟨w5, hw5⟩ : ∃ x, x = (wo.alloc (.cells #[.int .i64 0, .int .i64 0, .int .i64 0, .int .i64 0, .slice none 0 0, .slice none 0 0] 62)).drew := ⟨_, rfl⟩
                rw [← hw5, ← hX]
                have bel5 : Below wo.heap.size wo w5 := by rw [hw5]; exact (bal (Below.refl wo.heap.size wo) _).drew
                have gX5 : w5.heap[X]? = some (.cells #[.int .i64 0, .int .i64 0, .int .i64 0, .int .i64 0, .slice none 0 0, .slice none 0 0] 62) := by rw [hw5, hX]; exact World.alloc_heap_new wo _
                have hX3 : wo.heap.size ≤ X := by omega
                have S_5111726 : QuadAt w5 lb (lo + k * 4) ⟨qa, qb, qc, qd⟩ := HC.out.go (bel5.block _ hlbr)
                have hneX : lb ≠ X := by omega
                clear hw5 hX
                refine hK.out _ _ S_5111726 (fun hHeld => ?_)
                clear hK K
                try simp only [List.getElem_toArray, List.getElem_cons_zero, List.getElem_cons_succ, Act.put, List.setIfInBounds_toArray, List.set_cons_zero, List.set_cons_succ]
                refine wpAnyH_ready (rs := [23]) (by kernel_rfl) (by simp) ?_
                refine AllReadyH.cons rfl (fun K hK => ?_) ?_
                · simp only [List.getElem_toArray, List.getElem_cons_zero, List.getElem_cons_succ]
                  go_simp
                  (with_reducible refine (pick_at qd 2000001 pd Hd _ Qd (by decide) (by decide)).mono ?_)
                  rintro e wq ⟨rfl, hwq⟩
                  obtain rfl := hwq
                  dsimp only
                  refine hK.out _ _ S_5111726 (fun hHeld => ?_)
                  clear hK K
                  try simp only [List.getElem_toArray, List.getElem_cons_zero, List.getElem_cons_succ, Act.put, List.setIfInBounds_toArray, List.set_cons_zero, List.set_cons_succ]
                  refine wpAnyH_take (i := 24) (v := ?_) rfl (by kernel_rfl) (by kernel_rfl) (by kernel_rfl) (fun _ _ _ h => h) (Or.inl ⟨by kernel_rfl, ?_⟩) (by assumption) ?_
                  rotate_left
                  · intro w hSw
                    (try dsimp only at hSw)
                    go_simp
                    first | done | with_reducible rfl
                  simp only [List.getElem_toArray, List.getElem_cons_zero, List.getElem_cons_succ, Act.put, List.setIfInBounds_toArray, List.set_cons_zero, List.set_cons_succ]
                  refine wpAnyH_take (i := 25) (v := ?_) rfl (by kernel_rfl) (by kernel_rfl) (by kernel_rfl) (fun _ _ _ h => h) (Or.inl ⟨by kernel_rfl, ?_⟩) (by assumption) ?_
                  rotate_left
                  · intro w hSw
                    (try dsimp only at hSw)
                    go_simp
                    first | done | with_reducible rfl
                  simp only [List.getElem_toArray, List.getElem_cons_zero, List.getElem_cons_succ, Act.put, List.setIfInBounds_toArray, List.set_cons_zero, List.set_cons_succ]
                  refine wpAnyH_ready (rs := [27]) (by kernel_rfl) (by simp) ?_
                  refine AllReadyH.cons rfl (fun K hK => ?_) ?_
                  · simp only [List.getElem_toArray, List.getElem_cons_zero, List.getElem_cons_succ]
                    have x0 : w5.cell? ⟨X, 0, none⟩ = some (.int .i64 0) := by rw [Lib.cell_of_heap gX5]; rfl
                    have x1 : w5.cell? ⟨X, 1, none⟩ = some (.int .i64 0) := by rw [Lib.cell_of_heap gX5]; rfl
                    have x2 : w5.cell? ⟨X, 2, none⟩ = some (.int .i64 0) := by rw [Lib.cell_of_heap gX5]; rfl
                    have x3 : w5.cell? ⟨X, 3, none⟩ = some (.int .i64 0) := by rw [Lib.cell_of_heap gX5]; rfl
                    have x4 : w5.cell? ⟨X, 4, none⟩ = some (.slice none 0 0) := by rw [Lib.cell_of_heap gX5]; rfl
                    have x5 : w5.cell? ⟨X, 5, none⟩ = some (.slice none 0 0) := by rw [Lib.cell_of_heap gX5]; rfl
                    have yX : ∀ j, w5.frozen? ⟨X, j, none⟩ = false := fun j => Lib.frozen_of_heap gX5 j
                    go_simp
                    clear x0 x1 x2 x3 x4 x5 yX
                    refine hK.out _ _ (S_5111726.go (heap_set6 _ _ _ _ _ _ _ _ _ hneX)) (fun hHeld => ?_)
                    clear hK K
                    try simp only [List.getElem_toArray, List.getElem_cons_zero, List.getElem_cons_succ, Act.put, List.setIfInBounds_toArray, List.set_cons_zero, List.set_cons_succ]
                    refine wpAnyH_done (by kernel_rfl) ?_ _
                    dsimp only [NoPanic]
                    clear hHeld
                    go_wp2_with fail
                    go_meet
                    exact cut5_of gX5 rfl hX3 bel5
                  exact AllReadyH.nil
                exact AllReadyH.nil
              exact AllReadyH.nil
            refine AllReadyH.cons rfl (fun K hK => ?_) ?_
            · simp only [List.getElem_toArray, List.getElem_cons_zero, List.getElem_cons_succ]
              go_simp
              obtain ⟨X, hX⟩ : ∃ x, x = wo.heap.size := ⟨_, rfl⟩
              obtain ⟨w5, hw5⟩ : ∃ x, x = (wo.alloc (.cells #[.int .i64 0, .int .i64 0, .int .i64 0, .int .i64 0, .slice none 0 0, .slice none 0 0] 62)).drew := ⟨_, rfl⟩
              rw [← hw5, ← hX]
              have bel5 : Below wo.heap.size wo w5 := by rw [hw5]; exact (bal (Below.refl wo.heap.size wo) _).drew
              have gX5 : w5.heap[X]? = some (.cells #[.int .i64 0, .int .i64 0, .int .i64 0, .int .i64 0, .slice none 0 0, .slice none 0 0] 62) := by rw [hw5, hX]; exact World.alloc_heap_new wo _
              have hX3 : wo.heap.size ≤ X := by omega
              have S_51126 : QuadAt w5 lb (lo + k * 4) ⟨qa, qb, qc, qd⟩ := HC.out.go (bel5.block _ hlbr)
              have hneX : lb ≠ X := by omega
              clear hw5 hX
              refine hK.out _ _ S_51126 (fun hHeld => ?_)
              clear hK K
              try simp only [List.getElem_toArray, List.getElem_cons_zero, List.getElem_cons_succ, Act.put, List.setIfInBounds_toArray, List.set_cons_zero, List.set_cons_succ]
              refine wpAnyH_ready (rs := [17]) (by kernel_rfl) (by simp) ?_
              refine AllReadyH.cons rfl (fun K hK => ?_) ?_
              · simp only [List.getElem_toArray, List.getElem_cons_zero, List.getElem_cons_succ]
                go_simp
                (with_reducible refine (pick_at qc 2 pc Hc _ Qc (by decide) (by decide)).mono ?_)
                rintro e wq ⟨rfl, hwq⟩
                obtain rfl := hwq
                dsimp only
                refine hK.out _ _ S_51126 (fun hHeld => ?_)
                clear hK K
                try simp only [List.getElem_toArray, List.getElem_cons_zero, List.getElem_cons_succ, Act.put, List.setIfInBounds_toArray, List.set_cons_zero, List.set_cons_succ]
                refine wpAnyH_ready (rs := [23]) (by kernel_rfl) (by simp) ?_
                refine AllReadyH.cons rfl (fun K hK => ?_) ?_
                · simp only [List.getElem_toArray, List.getElem_cons_zero, List.getElem_cons_succ]
                  go_simp
                  (with_reducible refine (pick_at qd 2000001 pd Hd _ Qd (by decide) (by decide)).mono ?_)
                  rintro e wq ⟨rfl, hwq⟩
                  obtain rfl := hwq
                  dsimp only
                  refine hK.out _ _ S_51126 (fun hHeld => ?_)
                  clear hK K
                  try simp only [List.getElem_toArray, List.getElem_cons_zero, List.getElem_cons_succ, Act.put, List.setIfInBounds_toArray, List.set_cons_zero, List.set_cons_succ]
                  refine wpAnyH_take (i := 24) (v := ?_) rfl (by kernel_rfl) (by kernel_rfl) (by kernel_rfl) (fun _ _ _ h => h) (Or.inl ⟨by kernel_rfl, ?_⟩) (by assumption) ?_
                  rotate_left
                  · intro w hSw
                    (try dsimp only at hSw)
                    go_simp
                    first | done | with_reducible rfl
                  simp only [List.getElem_toArray, List.getElem_cons_zero, List.getElem_cons_succ, Act.put, List.setIfInBounds_toArray, List.set_cons_zero, List.set_cons_succ]
                  refine wpAnyH_take (i := 25) (v := ?_) rfl (by kernel_rfl) (by kernel_rfl) (by kernel_rfl) (fun _ _ _ h => h) (Or.inl ⟨by kernel_rfl, ?_⟩) (by assumption) ?_
                  rotate_left
                  · intro w hSw
                    (try dsimp only at hSw)
                    go_simp
                    first | done | with_reducible rfl
                  simp only [List.getElem_toArray, List.getElem_cons_zero, List.getElem_cons_succ, Act.put, List.setIfInBounds_toArray, List.set_cons_zero, List.set_cons_succ]
                  refine wpAnyH_ready (rs := [27]) (by kernel_rfl) (by simp) ?_
                  refine AllReadyH.cons rfl (fun K hK => ?_) ?_
                  · simp only [List.getElem_toArray, List.getElem_cons_zero, List.getElem_cons_succ]
                    have x0 : w5.cell? ⟨X, 0, none⟩ = some (.int .i64 0) := by rw [Lib.cell_of_heap gX5]; rfl
                    have x1 : w5.cell? ⟨X, 1, none⟩ = some (.int .i64 0) := by rw [Lib.cell_of_heap gX5]; rfl
                    have x2 : w5.cell? ⟨X, 2, none⟩ = some (.int .i64 0) := by rw [Lib.cell_of_heap gX5]; rfl
                    have x3 : w5.cell? ⟨X, 3, none⟩ = some (.int .i64 0) := by rw [Lib.cell_of_heap gX5]; rfl
                    have x4 : w5.cell? ⟨X, 4, none⟩ = some (.slice none 0 0) := by rw [Lib.cell_of_heap gX5]; rfl
                    have x5 : w5.cell? ⟨X, 5, none⟩ = some (.slice none 0 0) := by rw [Lib.cell_of_heap gX5]; rfl
                    have yX : ∀ j, w5.frozen? ⟨X, j, none⟩ = false := fun j => Lib.frozen_of_heap gX5 j
                    go_simp
                    clear x0 x1 x2 x3 x4 x5 yX
                    refine hK.out _ _ (S_51126.go (heap_set6 _ _ _ _ _ _ _ _ _ hneX)) (fun hHeld => ?_)
                    clear hK K
                    try simp only [List.getElem_toArray, List.getElem_cons_zero, List.getElem_cons_succ, Act.put, List.setIfInBounds_toArray, List.set_cons_zero, List.set_cons_succ]
                    refine wpAnyH_done (by kernel_rfl) ?_ _
                    dsimp only [NoPanic]
                    clear hHeld
                    go_wp2_with fail
                    go_meet
                    exact cut5_of gX5 rfl hX3 bel5
                  exact AllReadyH.nil
                exact AllReadyH.nil
              exact AllReadyH.nil
            exact AllReadyH.nil
          refine AllReadyH.cons rfl (fun K hK => ?_) ?_
          · simp only [List.getElem_toArray, List.getElem_cons_zero, List.getElem_cons_succ]
            go_simp
            obtain ⟨X, hX⟩ : ∃ x, x = wo.heap.size := ⟨_, rfl⟩
            obtain ⟨w5, hw5⟩ : ∃ x, x = (wo.alloc (.cells #[.int .i64 0, .int .i64 0, .int .i64 0, .int .i64 0, .slice none 0 0, .slice none 0 0] 62)).drew := ⟨_, rfl⟩
            rw [← hw5, ← hX]
            have bel5 : Below wo.heap.size wo w5 := by rw [hw5]; exact (bal (Below.refl wo.heap.size wo) _).drew
            have gX5 : w5.heap[X]? = some (.cells #[.int .i64 0, .int .i64 0, .int .i64 0, .int .i64 0, .slice none 0 0, .slice none 0 0] 62) := by rw [hw5, hX]; exact World.alloc_heap_new wo _
            have hX3 : wo.heap.size ≤ X := by omega
            have S_526 : QuadAt w5 lb (lo + k * 4) ⟨qa, qb, qc, qd⟩ := HC.out.go (bel5.block _ hlbr)
            have hneX : lb ≠ X := by omega
            clear hw5 hX
            refine hK.out _ _ S_526 (fun hHeld => ?_)
            clear hK K
            try simp only [List.getElem_toArray, List.getElem_cons_zero, List.getElem_cons_succ, Act.put, List.setIfInBounds_toArray, List.set_cons_zero, List.set_cons_succ]
            refine wpAnyH_ready (rs := [11]) (by kernel_rfl) (by simp) ?_
            refine AllReadyH.cons rfl (fun K hK => ?_) ?_
            · simp only [List.getElem_toArray, List.getElem_cons_zero, List.getElem_cons_succ]
              go_simp
              (with_reducible refine (pick_at qb 4 pb Hb _ Qb (by decide) (by decide)).mono ?_)
              rintro e wq ⟨rfl, hwq⟩
              obtain rfl := hwq
              dsimp only
              refine hK.out _ _ S_526 (fun hHeld => ?_)
              clear hK K
              try simp only [List.getElem_toArray, List.getElem_cons_zero, List.getElem_cons_succ, Act.put, List.setIfInBounds_toArray, List.set_cons_zero, List.set_cons_succ]
              refine wpAnyH_ready (rs := [17]) (by kernel_rfl) (by simp) ?_
              refine AllReadyH.cons rfl (fun K hK => ?_) ?_
              · simp only [List.getElem_toArray, List.getElem_cons_zero, List.getElem_cons_succ]
                go_simp
                (with_reducible refine (pick_at qc 2 pc Hc _ Qc (by decide) (by decide)).mono ?_)
                rintro e wq ⟨rfl, hwq⟩
                obtain rfl := hwq
                dsimp only
                refine hK.out _ _ S_526 (fun hHeld => ?_)
                clear hK K
                try simp only [List.getElem_toArray, List.getElem_cons_zero, List.getElem_cons_succ, Act.put, List.setIfInBounds_toArray, List.set_cons_zero, List.set_cons_succ]
                refine wpAnyH_ready (rs := [23]) (by kernel_rfl) (by simp) ?_
                refine AllReadyH.cons rfl (fun K hK => ?_) ?_
                · simp only [List.getElem_toArray, List.getElem_cons_zero, List.getElem_cons_succ]
                  go_simp
                  (with_reducible refine (pick_at qd 2000001 pd Hd _ Qd (by decide) (by decide)).mono ?_)
                  rintro e wq ⟨rfl, hwq⟩
                  obtain rfl := hwq
                  dsimp only
                  refine hK.out _ _ S_526 (fun hHeld => ?_)
                  clear hK K
                  try simp only [List.getElem_toArray, List.getElem_cons_zero, List.getElem_cons_succ, Act.put, List.setIfInBounds_toArray, List.set_cons_zero, List.set_cons_succ]
                  refine wpAnyH_take (i := 24) (v := ?_) rfl (by kernel_rfl) (by kernel_rfl) (by kernel_rfl) (fun _ _ _ h => h) (Or.inl ⟨by kernel_rfl, ?_⟩) (by assumption) ?_
                  rotate_left
                  · intro w hSw
                    (try dsimp only at hSw)
                    go_simp
                    first | done | with_reducible rfl
                  simp only [List.getElem_toArray, List.getElem_cons_zero, List.getElem_cons_succ, Act.put, List.setIfInBounds_toArray, List.set_cons_zero, List.set_cons_succ]
                  refine wpAnyH_take (i := 25) (v := ?_) rfl (by kernel_rfl) (by kernel_rfl) (by kernel_rfl) (fun _ _ _ h => h) (Or.inl ⟨by kernel_rfl, ?_⟩) (by assumption) ?_
                  rotate_left
                  · intro w hSw
                    (try dsimp only at hSw)
                    go_simp
                    first | done | with_reducible rfl
                  simp only [List.getElem_toArray, List.getElem_cons_zero, List.getElem_cons_succ, Act.put, List.setIfInBounds_toArray, List.set_cons_zero, List.set_cons_succ]
                  refine wpAnyH_ready (rs := [27]) (by kernel_rfl) (by simp) ?_
                  refine AllReadyH.cons rfl (fun K hK => ?_) ?_
                  · simp only [List.getElem_toArray, List.getElem_cons_zero, List.getElem_cons_succ]
                    have x0 : w5.cell? ⟨X, 0, none⟩ = some (.int .i64 0) := by rw [Lib.cell_of_heap gX5]; rfl
                    have x1 : w5.cell? ⟨X, 1, none⟩ = some (.int .i64 0) := by rw [Lib.cell_of_heap gX5]; rfl
                    have x2 : w5.cell? ⟨X, 2, none⟩ = some (.int .i64 0) := by rw [Lib.cell_of_heap gX5]; rfl
                    have x3 : w5.cell? ⟨X, 3, none⟩ = some (.int .i64 0) := by rw [Lib.cell_of_heap gX5]; rfl
                    have x4 : w5.cell? ⟨X, 4, none⟩ = some (.slice none 0 0) := by rw [Lib.cell_of_heap gX5]; rfl
                    have x5 : w5.cell? ⟨X, 5, none⟩ = some (.slice none 0 0) := by rw [Lib.cell_of_heap gX5]; rfl
                    have yX : ∀ j, w5.frozen? ⟨X, j, none⟩ = false := fun j => Lib.frozen_of_heap gX5 j
                    go_simp
                    clear x0 x1 x2 x3 x4 x5 yX
                    refine hK.out _ _ (S_526.go (heap_set6 _ _ _ _ _ _ _ _ _ hneX)) (fun hHeld => ?_)
                    clear hK K
                    try simp only [List.getElem_toArray, List.getElem_cons_zero, List.getElem_cons_succ, Act.put, List.setIfInBounds_toArray, List.set_cons_zero, List.set_cons_succ]
                    refine wpAnyH_done (by kernel_rfl) ?_ _
                    dsimp only [NoPanic]
                    clear hHeld
                    go_wp2_with fail
                    go_meet
                    exact cut5_of gX5 rfl hX3 bel5
                  exact AllReadyH.nil
                exact AllReadyH.nil
              exact AllReadyH.nil
            exact AllReadyH.nil
          exact AllReadyH.nil
        refine AllReadyH.cons rfl (fun K hK => ?_) ?_
        · simp only [List.getElem_toArray, List.getElem_cons_zero, List.getElem_cons_succ]
          go_simp
          obtain ⟨X, hX⟩ : ∃ x, x = wo.heap.size := ⟨_, rfl⟩
          obtain ⟨w5, hw5⟩ : ∃ x, x = (wo.alloc (.cells #[.int .i64 0, .int .i64 0, .int .i64 0, .int .i64 0, .slice none 0 0, .slice none 0 0] 62)).drew := ⟨_, rfl⟩
          rw [← hw5, ← hX]
          have bel5 : Below wo.heap.size wo w5 := by rw [hw5]; exact (bal (Below.refl wo.heap.size wo) _).drew
          have gX5 : w5.heap[X]? = some (.cells #[.int .i64 0, .int .i64 0, .int .i64 0, .int .i64 0, .slice none 0 0, .slice none 0 0] 62) := by rw [hw5, hX]; exact World.alloc_heap_new wo _
          have hX3 : wo.heap.size ≤ X := by omega
          have S_26 : QuadAt w5 lb (lo + k * 4) ⟨qa, qb, qc, qd⟩ := HC.out.go (bel5.block _ hlbr)
          have hneX : lb ≠ X := by omega
          clear hw5 hX
          refine hK.out _ _ S_26 (fun hHeld => ?_)
          clear hK K
          try simp only [List.getElem_toArray, List.getElem_cons_zero, List.getElem_cons_succ, Act.put, List.setIfInBounds_toArray, List.set_cons_zero, List.set_cons_succ]
          refine wpAnyH_ready (rs := [5]) (by kernel_rfl) (by simp) ?_
          refine AllReadyH.cons rfl (fun K hK => ?_) ?_
          · simp only [List.getElem_toArray, List.getElem_cons_zero, List.getElem_cons_succ]
            go_simp
            (with_reducible refine (pick_at qa 36525 pa Ha _ Qa (by decide) (by decide)).mono ?_)
            rintro e wq ⟨rfl, hwq⟩
            obtain rfl := hwq
            dsimp only
            refine hK.out _ _ S_26 (fun hHeld => ?_)
            clear hK K
            try simp only [List.getElem_toArray, List.getElem_cons_zero, List.getElem_cons_succ, Act.put, List.setIfInBounds_toArray, List.set_cons_zero, List.set_cons_succ]
            refine wpAnyH_ready (rs := [11]) (by kernel_rfl) (by simp) ?_
            refine AllReadyH.cons rfl (fun K hK => ?_) ?_
            · simp only [List.getElem_toArray, List.getElem_cons_zero, List.getElem_cons_succ]
              go_simp
              (with_reducible refine (pick_at qb 4 pb Hb _ Qb (by decide) (by decide)).mono ?_)
              rintro e wq ⟨rfl, hwq⟩
              obtain rfl := hwq
              dsimp only
              refine hK.out _ _ S_26 (fun hHeld => ?_)
              clear hK K
              try simp only [List.getElem_toArray, List.getElem_cons_zero, List.getElem_cons_succ, Act.put, List.setIfInBounds_toArray, List.set_cons_zero, List.set_cons_succ]
              refine wpAnyH_ready (rs := [17]) (by kernel_rfl) (by simp) ?_
              refine AllReadyH.cons rfl (fun K hK => ?_) ?_
              · simp only [List.getElem_toArray, List.getElem_cons_zero, List.getElem_cons_succ]
                go_simp
                (with_reducible refine (pick_at qc 2 pc Hc _ Qc (by decide) (by decide)).mono ?_)
                rintro e wq ⟨rfl, hwq⟩
                obtain rfl := hwq
                dsimp only
                refine hK.out _ _ S_26 (fun hHeld => ?_)
                clear hK K
                try simp only [List.getElem_toArray, List.getElem_cons_zero, List.getElem_cons_succ, Act.put, List.setIfInBounds_toArray, List.set_cons_zero, List.set_cons_succ]
                refine wpAnyH_ready (rs := [23]) (by kernel_rfl) (by simp) ?_
                refine AllReadyH.cons rfl (fun K hK => ?_) ?_
                · simp only [List.getElem_toArray, List.getElem_cons_zero, List.getElem_cons_succ]
                  go_simp
                  (with_reducible refine (pick_at qd 2000001 pd Hd _ Qd (by decide) (by decide)).mono ?_)
                  rintro e wq ⟨rfl, hwq⟩
                  obtain rfl := hwq
                  dsimp only
                  refine hK.out _ _ S_26 (fun hHeld => ?_)
                  clear hK K
                  try simp only [List.getElem_toArray, List.getElem_cons_zero, List.getElem_cons_succ, Act.put, List.setIfInBounds_toArray, List.set_cons_zero, List.set_cons_succ]
                  refine wpAnyH_take (i := 24) (v := ?_) rfl (by kernel_rfl) (by kernel_rfl) (by kernel_rfl) (fun _ _ _ h => h) (Or.inl ⟨by kernel_rfl, ?_⟩) (by assumption) ?_
                  rotate_left
                  · intro w hSw
                    (try dsimp only at hSw)
                    go_simp
                    first | done | with_reducible rfl
                  simp only [List.getElem_toArray, List.getElem_cons_zero, List.getElem_cons_succ, Act.put, List.setIfInBounds_toArray, List.set_cons_zero, List.set_cons_succ]
                  refine wpAnyH_take (i := 25) (v := ?_) rfl (by kernel_rfl) (by kernel_rfl) (by kernel_rfl) (fun _ _ _ h => h) (Or.inl ⟨by kernel_rfl, ?_⟩) (by assumption) ?_
                  rotate_left
                  · intro w hSw
                    (try dsimp only at hSw)
                    go_simp
                    first | done | with_reducible rfl
                  simp only [List.getElem_toArray, List.getElem_cons_zero, List.getElem_cons_succ, Act.put, List.setIfInBounds_toArray, List.set_cons_zero, List.set_cons_succ]
                  refine wpAnyH_ready (rs := [27]) (by kernel_rfl) (by simp) ?_
                  refine AllReadyH.cons rfl (fun K hK => ?_) ?_
                  · simp only [List.getElem_toArray, List.getElem_cons_zero, List.getElem_cons_succ]
                    have x0 : w5.cell? ⟨X, 0, none⟩ = some (.int .i64 0) := by rw [Lib.cell_of_heap gX5]; rfl
                    have x1 : w5.cell? ⟨X, 1, none⟩ = some (.int .i64 0) := by rw [Lib.cell_of_heap gX5]; rfl
                    have x2 : w5.cell? ⟨X, 2, none⟩ = some (.int .i64 0) := by rw [Lib.cell_of_heap gX5]; rfl
                    have x3 : w5.cell? ⟨X, 3, none⟩ = some (.int .i64 0) := by rw [Lib.cell_of_heap gX5]; rfl
                    have x4 : w5.cell? ⟨X, 4, none⟩ = some (.slice none 0 0) := by rw [Lib.cell_of_heap gX5]; rfl
                    have x5 : w5.cell? ⟨X, 5, none⟩ = some (.slice none 0 0) := by rw [Lib.cell_of_heap gX5]; rfl
                    have yX : ∀ j, w5.frozen? ⟨X, j, none⟩ = false := fun j => Lib.frozen_of_heap gX5 j
                    go_simp
                    clear x0 x1 x2 x3 x4 x5 yX
                    refine hK.out _ _ (S_26.go (heap_set6 _ _ _ _ _ _ _ _ _ hneX)) (fun hHeld => ?_)
                    clear hK K
                    try simp only [List.getElem_toArray, List.getElem_cons_zero, List.getElem_cons_succ, Act.put, List.setIfInBounds_toArray, List.set_cons_zero, List.set_cons_succ]
                    refine wpAnyH_done (by kernel_rfl) ?_ _
                    dsimp only [NoPanic]
                    clear hHeld
                    go_wp2_with fail
                    go_meet
                    exact cut5_of gX5 rfl hX3 bel5
                  exact AllReadyH.nil
                exact AllReadyH.nil
              exact AllReadyH.nil
            exact AllReadyH.nil
          exact AllReadyH.nil
        exact AllReadyH.nil
      case rest =>
        obtain ⟨X, rfl, gX, hX, hBx⟩ := hcut
        obtain ⟨pf, hpf⟩ : ∃ v, pickF qc 4 = v := ⟨_, rfl⟩
        obtain ⟨p3, hp3⟩ : ∃ v, pickF qa 3 = v := ⟨_, rfl⟩
        have hpf1 := pickF_lt qc 4 (by omega)
        have hp31 := pickF_lt qa 3 (by omega)
        rw [hpf] at hpf1
        rw [hp3] at hp31
        obtain ⟨F, hF⟩ : ∃ F : Nat, pf = (F : Int) := ⟨pf.toNat, by omega⟩
        subst hF
        have Hf := Lib.hid hpf
        have H3 := Lib.hid hp3
        clear hpf hp3
        have HI0 : Hid (ResI wo X pa pb pc (pd - 1000000) ⟨qa, qb, qc, qd⟩ 0 (.slice none 0 0) wc) := Lib.hid ⟨gX, ⟨rfl, .inl ⟨rfl, rfl⟩⟩, hBx, hX⟩
        clear gX
        obtain ⟨i0, hi0, hz0, hz1, hz2⟩ := info_parts info_int
        go_wp2_with fail
        go_loopw [10] (fun q wx => ∃ j : Nat, j ≤ F ∧ q = .int .i64 (j : Int) ∧ ∃ v, ResI wo X pa pb pc (pd - 1000000) ⟨qa, qb, qc, qd⟩ j v wx) (fun q _ => F - (intOf q).toNat)
        case atStart => exact ⟨0, Nat.zero_le _, rfl, _, HI0.out⟩
        case round =>
          obtain ⟨j, hj, rfl, fv, hI⟩ := hrel
          have HI := Lib.hid hI
          clear hI
          have HCx := Lib.hid (HC.out.go (HI.out.bel.block _ hlbr))
          have z2 := HCx.out.zc
          dsimp only at z2
          by_cases hjl : j < F
          · have hjl' : (j : Int) < (F : Int) := by omega
            have hm3 : IntKind.i64.wrap (3 * (j : Int)) = 3 * (j : Int) := IntWalk.i64_in _ (by omega)
            have hs3 : IntKind.i64.wrap (3 * (j : Int) + p3) = 3 * (j : Int) + p3 := IntWalk.i64_in _ (by omega)
            go_wp2_with fail
            (with_reducible refine (pick_at qc 4 (F : Int) Hf _ Qc (by decide) (by decide)).mono ?_)
            rintro e wq ⟨rfl, hwq⟩
            obtain rfl := hwq
            go_wp2_with fail
            clear z2
            have hlbx : lb < wr.heap.size := Nat.lt_of_lt_of_le hlbr HI.out.bel.size
            have hXl : X < wr.heap.size := (Array.getElem?_eq_some_iff.1 HI.out.hX).1
            refine wp_region_noPanic ?_
            refine wp_region_held_drew (S := fun W' => QuadAt W' lb (lo + k * 4) ⟨qa, qb, qc, qd⟩) (by kernel_rfl) HCx.out.drew (fun hHeld => ?_)
            refine wpAnyH_take (i := 0) (v := ?_) rfl (by kernel_rfl) (by kernel_rfl) (by kernel_rfl) (fun _ _ _ h => h) (Or.inl ⟨by kernel_rfl, ?_⟩) (by assumption) ?_
            rotate_left
            · intro w hSw
              (try dsimp only at hSw)
              go_simp
              first | done | with_reducible rfl
            simp only [List.getElem_toArray, List.getElem_cons_zero, List.getElem_cons_succ, Act.put, List.setIfInBounds_toArray, List.set_cons_zero, List.set_cons_succ]
            refine wpAnyH_take (i := 2) (v := ?_) rfl (by kernel_rfl) (by kernel_rfl) (by kernel_rfl) (fun _ _ _ h => h) (Or.inl ⟨by kernel_rfl, ?_⟩) (by assumption) ?_
            rotate_left
            · intro w hSw
              (try dsimp only at hSw)
              go_simp
              first | done | with_reducible rfl
            simp only [List.getElem_toArray, List.getElem_cons_zero, List.getElem_cons_succ, Act.put, List.setIfInBounds_toArray, List.set_cons_zero, List.set_cons_succ]
            refine wpAnyH_take (i := 3) (v := ?_) rfl (by kernel_rfl) (by kernel_rfl) (by kernel_rfl) (fun _ _ _ h => h) (Or.inl ⟨by kernel_rfl, ?_⟩) (by assumption) ?_
            rotate_left
            · intro w hSw
              (try dsimp only at hSw)
              go_simp
              first | done | with_reducible rfl
            simp only [List.getElem_toArray, List.getElem_cons_zero, List.getElem_cons_succ, Act.put, List.setIfInBounds_toArray, List.set_cons_zero, List.set_cons_succ]
            refine wpAnyH_take (i := 4) (v := ?_) rfl (by kernel_rfl) (by kernel_rfl) (by kernel_rfl) (fun _ _ _ h => h) (Or.inl ⟨by kernel_rfl, ?_⟩) (by assumption) ?_
            rotate_left
            · intro w hSw
              (try dsimp only at hSw)
              go_simp
              first | done | with_reducible rfl
            simp only [List.getElem_toArray, List.getElem_cons_zero, List.getElem_cons_succ, Act.put, List.setIfInBounds_toArray, List.set_cons_zero, List.set_cons_succ]
            refine wpAnyH_take (i := 5) (v := ?_) rfl (by kernel_rfl) (by kernel_rfl) (by kernel_rfl) (fun _ _ _ h => h) (Or.inl ⟨by kernel_rfl, ?_⟩) (by assumption) ?_
            rotate_left
            · intro w hSw
              (try dsimp only at hSw)
              go_simp
              first | done | with_reducible rfl
            simp only [List.getElem_toArray, List.getElem_cons_zero, List.getElem_cons_succ, Act.put, List.setIfInBounds_toArray, List.set_cons_zero, List.set_cons_succ]
            refine wpAnyH_take (i := 6) (v := ?_) rfl (by kernel_rfl) (by kernel_rfl) (by kernel_rfl) (fun _ _ _ h => h) (Or.inl ⟨by kernel_rfl, ?_⟩) (by assumption) ?_
            rotate_left
            · intro w hSw
              (try dsimp only at hSw)
              go_simp
              first | done | with_reducible rfl
            simp only [List.getElem_toArray, List.getElem_cons_zero, List.getElem_cons_succ, Act.put, List.setIfInBounds_toArray, List.set_cons_zero, List.set_cons_succ]
            refine wpAnyH_take (i := 7) (v := ?_) rfl (by kernel_rfl) (by kernel_rfl) (by kernel_rfl) (fun _ _ _ h => h) (Or.inl ⟨by kernel_rfl, ?_⟩) (by assumption) ?_
            rotate_left
            · intro w hSw
              (try dsimp only at hSw)
              go_simp
              first | done | with_reducible rfl
            simp only [List.getElem_toArray, List.getElem_cons_zero, List.getElem_cons_succ, Act.put, List.setIfInBounds_toArray, List.set_cons_zero, List.set_cons_succ]
            refine wpAnyH_take (i := 8) (v := ?_) rfl (by kernel_rfl) (by kernel_rfl) (by kernel_rfl) (fun _ _ _ h => h) (Or.inl ⟨by kernel_rfl, ?_⟩) (by assumption) ?_
            rotate_left
            · intro w hSw
              (try dsimp only at hSw)
              have z := hSw.za
              dsimp only at z
              go_simp
              first | done | with_reducible rfl
            simp only [List.getElem_toArray, List.getElem_cons_zero, List.getElem_cons_succ, Act.put, List.setIfInBounds_toArray, List.set_cons_zero, List.set_cons_succ]
            refine wpAnyH_ready (rs := [1, 9]) (by kernel_rfl) (by simp) ?_
            refine AllReadyH.cons rfl (fun K hK => ?_) ?_
            · simp only [List.getElem_toArray, List.getElem_cons_zero, List.getElem_cons_succ]
              have x4 : wr.cell? ⟨X, 4, none⟩ = some fv := by rw [Lib.cell_of_heap HI.out.hX]; rfl
              go_simp
              clear x4
              refine hK.out _ _ HCx.out.drew (fun hHeld => ?_)
              clear hK K
              try simp only [List.getElem_toArray, List.getElem_cons_zero, List.getElem_cons_succ, Act.put, List.setIfInBounds_toArray, List.set_cons_zero, List.set_cons_succ]
              refine wpAnyH_ready (rs := [9]) (by kernel_rfl) (by simp) ?_
              refine AllReadyH.cons rfl (fun K hK => ?_) ?_
              · simp only [List.getElem_toArray, List.getElem_cons_zero, List.getElem_cons_succ]
                go_simp
                (with_reducible refine (pick_at qa 3 p3 H3 _ Qa (by decide) (by decide)).mono ?_)
                rintro e wq2 ⟨rfl, hwq⟩
                obtain rfl := hwq
                dsimp only
                refine hK.out _ _ HCx.out.drew (fun hHeld => ?_)
                clear hK K
                try simp only [List.getElem_toArray, List.getElem_cons_zero, List.getElem_cons_succ, Act.put, List.setIfInBounds_toArray, List.set_cons_zero, List.set_cons_succ]
                refine wpAnyH_take (i := 10) (v := ?_) rfl (by kernel_rfl) (by kernel_rfl) (by kernel_rfl) (fun _ _ _ h => h) (Or.inl ⟨by kernel_rfl, ?_⟩) (by assumption) ?_
                rotate_left
                · intro w hSw
                  (try dsimp only at hSw)
                  go_simp
                  first | done | with_reducible rfl
                simp only [List.getElem_toArray, List.getElem_cons_zero, List.getElem_cons_succ, Act.put, List.setIfInBounds_toArray, List.set_cons_zero, List.set_cons_succ]
                refine wpAnyH_ready (rs := [11]) (by kernel_rfl) (by simp) ?_
                refine AllReadyH.cons rfl (fun K hK => ?_) ?_
                · simp only [List.getElem_toArray, List.getElem_cons_zero, List.getElem_cons_succ]
                  go_simp
                  obtain ⟨w9, hw9⟩ : ∃ x, x = (wr.alloc (.cells #[.int .i64 (3 * (j : Int) + p3)] 3)).drew := ⟨_, rfl⟩
                  obtain ⟨nb, hnb⟩ : ∃ x, x = wr.heap.size := ⟨_, rfl⟩
                  rw [← hw9, ← hnb]
                  have bel9 : Below wo.heap.size wo w9 := by rw [hw9]; exact (bgo HI.out.bel (bal (Below.refl wr.heap.size wr) _).drew)
                  have gX9 : w9.heap[X]? = some (.cells #[.int .i64 pa, .int .i64 pb, .int .i64 pc, .int .i64 (pd - 1000000), fv, .slice none 0 0] 62 (0, 0)) := by rw [hw9]; exact (((bal (Below.refl wr.heap.size wr) _).drew).block _ hXl).trans HI.out.hX
                  have own9 : w9.ownsRow (X + 1) 3 1 fv j (intV (factsF ⟨qa, qb, qc, qd⟩ j)) := by rw [hw9]; exact own_below HI.out.own (bal (Below.refl wr.heap.size wr) _).drew
                  have S9 : QuadAt w9 lb (lo + k * 4) ⟨qa, qb, qc, qd⟩ := by rw [hw9]; exact HCx.out.go (((bal (Below.refl wr.heap.size wr) _).drew).block _ hlbx)
                  have src9 : Src w9 1 (.slice (some ⟨nb, 0, none⟩) 1 1) 1 [.int .i64 (3 * (j : Int) + p3)] := by rw [hw9, hnb]; exact block_src wr [.int .i64 (3 * (j : Int) + p3)] _ _ 1 1 1 rfl
                  have hX9 : X + 1 ≤ w9.heap.size := (Array.getElem?_eq_some_iff.1 gX9).1
                  clear hw9 hnb
                  refine hK.out _ _ S9 (fun hHeld => ?_)
                  clear hK K
                  try simp only [List.getElem_toArray, List.getElem_cons_zero, List.getElem_cons_succ, Act.put, List.setIfInBounds_toArray, List.set_cons_zero, List.set_cons_succ]
                  refine wpAnyH_ready (rs := [12]) (by kernel_rfl) (by simp) ?_
                  refine AllReadyH.cons rfl (fun K hK => ?_) ?_
                  · refine step_src2 (w0 := wo) (X + 1) (by have := HI.out.hX3; omega) hX9 (by rfl) _ _ 39 (by rfl) 3 i0 (.int .i64 0) 1 8 Tryd.underlying39 hi0 hz0 hz1 hz2 (by rfl) (by decide) fv j (intV (factsF ⟨qa, qb, qc, qd⟩ j)) (by rfl) own9 bel9 (.slice (some ⟨nb, 0, none⟩) 1 1) 1 [.int .i64 (3 * (j : Int) + p3)] (by rfl) src9 (by simp [Value.oneCell']) (by unfold maxLen; omega) (by omega) ?_
                    intro v8 w8 own8 bel8 kept8
                    obtain ⟨B8, cb8, hv8, _⟩ := own_slice own8
                    subst hv8
                    have hgX : fv.ownBlock ≠ some X := own_ne HI.out.own (by omega)
                    have gX8 := (kept8.2 X (by omega) hgX).trans gX9
                    have S8 := S9.go (kept8.2 lb (by omega) (own_ne HI.out.own (by have := HI.out.hX3; omega)))
                    have x4 : w8.cell? ⟨X, 4, none⟩ = some fv := by rw [Lib.cell_of_heap gX8]; rfl
                    have y4 : w8.frozen? ⟨X, 4, none⟩ = false := Lib.frozen_of_heap gX8 4
                    refine hK.out _ _ S8 (fun hHeld => ?_)
                    clear hK K
                    try simp only [List.getElem_toArray, List.getElem_cons_zero, List.getElem_cons_succ, Act.put, List.setIfInBounds_toArray, List.set_cons_zero, List.set_cons_succ]
                    refine wpAnyH_take (i := 13) (v := ?_) rfl (by kernel_rfl) (by kernel_rfl) (by kernel_rfl) (fun _ _ _ h => h) (Or.inl ⟨by kernel_rfl, ?_⟩) (by assumption) ?_
                    rotate_left
                    · intro w hSw
                      (try dsimp only at hSw)
                      go_simp
                      first | done | with_reducible rfl
                    simp only [List.getElem_toArray, List.getElem_cons_zero, List.getElem_cons_succ, Act.put, List.setIfInBounds_toArray, List.set_cons_zero, List.set_cons_succ]
                    refine wpAnyH_ready (rs := [14]) (by kernel_rfl) (by simp) ?_
                    refine AllReadyH.cons rfl (fun K hK => ?_) ?_
                    · simp only [List.getElem_toArray, List.getElem_cons_zero, List.getElem_cons_succ]
                      go_simp
                      refine hK.out _ _ (S8.go (Below.heap_setCell _ ⟨X, 4, none⟩ _ _ (show lb ≠ X by have := HI.out.hX3; omega))) (fun hHeld => ?_)
                      clear hK K
                      try simp only [List.getElem_toArray, List.getElem_cons_zero, List.getElem_cons_succ, Act.put, List.setIfInBounds_toArray, List.set_cons_zero, List.set_cons_succ]
                      refine wpAnyH_done (by kernel_rfl) ?_ _
                      dsimp only [NoPanic]
                      clear hHeld x4 y4
                      go_wp2_with fail
                      refine ⟨⟨j + 1, hjl, rfl, _, resI_step HI.out (H3.out) gX8 own8 bel8⟩, ?_⟩
                      simp [intOf]
                      omega
                    exact AllReadyH.nil
                  exact AllReadyH.nil
                exact AllReadyH.nil
              exact AllReadyH.nil
            refine AllReadyH.cons rfl (fun K hK => ?_) ?_
            · simp only [List.getElem_toArray, List.getElem_cons_zero, List.getElem_cons_succ]
              go_simp
              (with_reducible refine (pick_at qa 3 p3 H3 _ Qa (by decide) (by decide)).mono ?_)
              rintro e wq2 ⟨rfl, hwq⟩
              obtain rfl := hwq
              dsimp only
              refine hK.out _ _ HCx.out.drew (fun hHeld => ?_)
              clear hK K
              try simp only [List.getElem_toArray, List.getElem_cons_zero, List.getElem_cons_succ, Act.put, List.setIfInBounds_toArray, List.set_cons_zero, List.set_cons_succ]
              refine wpAnyH_take (i := 10) (v := ?_) rfl (by kernel_rfl) (by kernel_rfl) (by kernel_rfl) (fun _ _ _ h => h) (Or.inl ⟨by kernel_rfl, ?_⟩) (by assumption) ?_
              rotate_left
              · intro w hSw
                (try dsimp only at hSw)
                go_simp
                first | done | with_reducible rfl
              simp only [List.getElem_toArray, List.getElem_cons_zero, List.getElem_cons_succ, Act.put, List.setIfInBounds_toArray, List.set_cons_zero, List.set_cons_succ]
              refine wpAnyH_ready (rs := [1, 11]) (by kernel_rfl) (by simp) ?_
              refine AllReadyH.cons rfl (fun K hK => ?_) ?_
              · simp only [List.getElem_toArray, List.getElem_cons_zero, List.getElem_cons_succ]
                have x4 : wr.cell? ⟨X, 4, none⟩ = some fv := by rw [Lib.cell_of_heap HI.out.hX]; rfl
                go_simp
                clear x4
                refine hK.out _ _ HCx.out.drew (fun hHeld => ?_)
                clear hK K
                try simp only [List.getElem_toArray, List.getElem_cons_zero, List.getElem_cons_succ, Act.put, List.setIfInBounds_toArray, List.set_cons_zero, List.set_cons_succ]
                refine wpAnyH_ready (rs := [11]) (by kernel_rfl) (by simp) ?_
                refine AllReadyH.cons rfl (fun K hK => ?_) ?_
                · simp only [List.getElem_toArray, List.getElem_cons_zero, List.getElem_cons_succ]
                  go_simp
                  obtain ⟨w9, hw9⟩ : ∃ x, x = (wr.alloc (.cells #[.int .i64 (3 * (j : Int) + p3)] 3)).drew := ⟨_, rfl⟩
                  obtain ⟨nb, hnb⟩ : ∃ x, x = wr.heap.size := ⟨_, rfl⟩
                  rw [← hw9, ← hnb]
                  have bel9 : Below wo.heap.size wo w9 := by rw [hw9]; exact (bgo HI.out.bel (bal (Below.refl wr.heap.size wr) _).drew)
                  have gX9 : w9.heap[X]? = some (.cells #[.int .i64 pa, .int .i64 pb, .int .i64 pc, .int .i64 (pd - 1000000), fv, .slice none 0 0] 62 (0, 0)) := by rw [hw9]; exact (((bal (Below.refl wr.heap.size wr) _).drew).block _ hXl).trans HI.out.hX
                  have own9 : w9.ownsRow (X + 1) 3 1 fv j (intV (factsF ⟨qa, qb, qc, qd⟩ j)) := by rw [hw9]; exact own_below HI.out.own (bal (Below.refl wr.heap.size wr) _).drew
                  have S9 : QuadAt w9 lb (lo + k * 4) ⟨qa, qb, qc, qd⟩ := by rw [hw9]; exact HCx.out.go (((bal (Below.refl wr.heap.size wr) _).drew).block _ hlbx)
                  have src9 : Src w9 1 (.slice (some ⟨nb, 0, none⟩) 1 1) 1 [.int .i64 (3 * (j : Int) + p3)] := by rw [hw9, hnb]; exact block_src wr [.int .i64 (3 * (j : Int) + p3)] _ _ 1 1 1 rfl
                  have hX9 : X + 1 ≤ w9.heap.size := (Array.getElem?_eq_some_iff.1 gX9).1
                  clear hw9 hnb
                  refine hK.out _ _ S9 (fun hHeld => ?_)
                  clear hK K
                  try simp only [List.getElem_toArray, List.getElem_cons_zero, List.getElem_cons_succ, Act.put, List.setIfInBounds_toArray, List.set_cons_zero, List.set_cons_succ]
                  refine wpAnyH_ready (rs := [12]) (by kernel_rfl) (by simp) ?_
                  refine AllReadyH.cons rfl (fun K hK => ?_) ?_
                  · refine step_src2 (w0 := wo) (X + 1) (by have := HI.out.hX3; omega) hX9 (by rfl) _ _ 39 (by rfl) 3 i0 (.int .i64 0) 1 8 Tryd.underlying39 hi0 hz0 hz1 hz2 (by rfl) (by decide) fv j (intV (factsF ⟨qa, qb, qc, qd⟩ j)) (by rfl) own9 bel9 (.slice (some ⟨nb, 0, none⟩) 1 1) 1 [.int .i64 (3 * (j : Int) + p3)] (by rfl) src9 (by simp [Value.oneCell']) (by unfold maxLen; omega) (by omega) ?_
                    intro v8 w8 own8 bel8 kept8
                    obtain ⟨B8, cb8, hv8, _⟩ := own_slice own8
                    subst hv8
                    have hgX : fv.ownBlock ≠ some X := own_ne HI.out.own (by omega)
                    have gX8 := (kept8.2 X (by omega) hgX).trans gX9
                    have S8 := S9.go (kept8.2 lb (by omega) (own_ne HI.out.own (by have := HI.out.hX3; omega)))
                    have x4 : w8.cell? ⟨X, 4, none⟩ = some fv := by rw [Lib.cell_of_heap gX8]; rfl
                    have y4 : w8.frozen? ⟨X, 4, none⟩ = false := Lib.frozen_of_heap gX8 4
                    refine hK.out _ _ S8 (fun hHeld => ?_)
                    clear hK K
                    try simp only [List.getElem_toArray, List.getElem_cons_zero, List.getElem_cons_succ, Act.put, List.setIfInBounds_toArray, List.set_cons_zero, List.set_cons_succ]
                    refine wpAnyH_take (i := 13) (v := ?_) rfl (by kernel_rfl) (by kernel_rfl) (by kernel_rfl) (fun _ _ _ h => h) (Or.inl ⟨by kernel_rfl, ?_⟩) (by assumption) ?_
                    rotate_left
                    · intro w hSw
                      (try dsimp only at hSw)
                      go_simp
                      first | done | with_reducible rfl
                    simp only [List.getElem_toArray, List.getElem_cons_zero, List.getElem_cons_succ, Act.put, List.setIfInBounds_toArray, List.set_cons_zero, List.set_cons_succ]
                    refine wpAnyH_ready (rs := [14]) (by kernel_rfl) (by simp) ?_
                    refine AllReadyH.cons rfl (fun K hK => ?_) ?_
                    · simp only [List.getElem_toArray, List.getElem_cons_zero, List.getElem_cons_succ]
                      go_simp
                      refine hK.out _ _ (S8.go (Below.heap_setCell _ ⟨X, 4, none⟩ _ _ (show lb ≠ X by have := HI.out.hX3; omega))) (fun hHeld => ?_)
                      clear hK K
                      try simp only [List.getElem_toArray, List.getElem_cons_zero, List.getElem_cons_succ, Act.put, List.setIfInBounds_toArray, List.set_cons_zero, List.set_cons_succ]
                      refine wpAnyH_done (by kernel_rfl) ?_ _
                      dsimp only [NoPanic]
                      clear hHeld x4 y4
                      go_wp2_with fail
                      refine ⟨⟨j + 1, hjl, rfl, _, resI_step HI.out (H3.out) gX8 own8 bel8⟩, ?_⟩
                      simp [intOf]
                      omega
                    exact AllReadyH.nil
                  exact AllReadyH.nil
                exact AllReadyH.nil
              refine AllReadyH.cons rfl (fun K hK => ?_) ?_
              · simp only [List.getElem_toArray, List.getElem_cons_zero, List.getElem_cons_succ]
                go_simp
                obtain ⟨w9, hw9⟩ : ∃ x, x = (wr.alloc (.cells #[.int .i64 (3 * (j : Int) + p3)] 3)).drew := ⟨_, rfl⟩
                obtain ⟨nb, hnb⟩ : ∃ x, x = wr.heap.size := ⟨_, rfl⟩
                rw [← hw9, ← hnb]
                have bel9 : Below wo.heap.size wo w9 := by rw [hw9]; exact (bgo HI.out.bel (bal (Below.refl wr.heap.size wr) _).drew)
                have gX9 : w9.heap[X]? = some (.cells #[.int .i64 pa, .int .i64 pb, .int .i64 pc, .int .i64 (pd - 1000000), fv, .slice none 0 0] 62 (0, 0)) := by rw [hw9]; exact (((bal (Below.refl wr.heap.size wr) _).drew).block _ hXl).trans HI.out.hX
                have own9 : w9.ownsRow (X + 1) 3 1 fv j (intV (factsF ⟨qa, qb, qc, qd⟩ j)) := by rw [hw9]; exact own_below HI.out.own (bal (Below.refl wr.heap.size wr) _).drew
                have S9 : QuadAt w9 lb (lo + k * 4) ⟨qa, qb, qc, qd⟩ := by rw [hw9]; exact HCx.out.go (((bal (Below.refl wr.heap.size wr) _).drew).block _ hlbx)
                have src9 : Src w9 1 (.slice (some ⟨nb, 0, none⟩) 1 1) 1 [.int .i64 (3 * (j : Int) + p3)] := by rw [hw9, hnb]; exact block_src wr [.int .i64 (3 * (j : Int) + p3)] _ _ 1 1 1 rfl
                have hX9 : X + 1 ≤ w9.heap.size := (Array.getElem?_eq_some_iff.1 gX9).1
                clear hw9 hnb
                refine hK.out _ _ S9 (fun hHeld => ?_)
                clear hK K
                try simp only [List.getElem_toArray, List.getElem_cons_zero, List.getElem_cons_succ, Act.put, List.setIfInBounds_toArray, List.set_cons_zero, List.set_cons_succ]
                refine wpAnyH_ready (rs := [1]) (by kernel_rfl) (by simp) ?_
                refine AllReadyH.cons rfl (fun K hK => ?_) ?_
                · simp only [List.getElem_toArray, List.getElem_cons_zero, List.getElem_cons_succ]
                  have x4 : w9.cell? ⟨X, 4, none⟩ = some fv := by rw [Lib.cell_of_heap gX9]; rfl
                  go_simp
                  clear x4
                  refine hK.out _ _ S9 (fun hHeld => ?_)
                  clear hK K
                  try simp only [List.getElem_toArray, List.getElem_cons_zero, List.getElem_cons_succ, Act.put, List.setIfInBounds_toArray, List.set_cons_zero, List.set_cons_succ]
                  refine wpAnyH_ready (rs := [12]) (by kernel_rfl) (by simp) ?_
                  refine AllReadyH.cons rfl (fun K hK => ?_) ?_
                  · refine step_src2 (w0 := wo) (X + 1) (by have := HI.out.hX3; omega) hX9 (by rfl) _ _ 39 (by rfl) 3 i0 (.int .i64 0) 1 8 Tryd.underlying39 hi0 hz0 hz1 hz2 (by rfl) (by decide) fv j (intV (factsF ⟨qa, qb, qc, qd⟩ j)) (by rfl) own9 bel9 (.slice (some ⟨nb, 0, none⟩) 1 1) 1 [.int .i64 (3 * (j : Int) + p3)] (by rfl) src9 (by simp [Value.oneCell']) (by unfold maxLen; omega) (by omega) ?_
                    intro v8 w8 own8 bel8 kept8
                    obtain ⟨B8, cb8, hv8, _⟩ := own_slice own8
                    subst hv8
                    have hgX : fv.ownBlock ≠ some X := own_ne HI.out.own (by omega)
                    have gX8 := (kept8.2 X (by omega) hgX).trans gX9
                    have S8 := S9.go (kept8.2 lb (by omega) (own_ne HI.out.own (by have := HI.out.hX3; omega)))
                    have x4 : w8.cell? ⟨X, 4, none⟩ = some fv := by rw [Lib.cell_of_heap gX8]; rfl
                    have y4 : w8.frozen? ⟨X, 4, none⟩ = false := Lib.frozen_of_heap gX8 4
                    refine hK.out _ _ S8 (fun hHeld => ?_)
                    clear hK K
                    try simp only [List.getElem_toArray, List.getElem_cons_zero, List.getElem_cons_succ, Act.put, List.setIfInBounds_toArray, List.set_cons_zero, List.set_cons_succ]
                    refine wpAnyH_take (i := 13) (v := ?_) rfl (by kernel_rfl) (by kernel_rfl) (by kernel_rfl) (fun _ _ _ h => h) (Or.inl ⟨by kernel_rfl, ?_⟩) (by assumption) ?_
                    rotate_left
                    · intro w hSw
                      (try dsimp only at hSw)
                      go_simp
                      first | done | with_reducible rfl
                    simp only [List.getElem_toArray, List.getElem_cons_zero, List.getElem_cons_succ, Act.put, List.setIfInBounds_toArray, List.set_cons_zero, List.set_cons_succ]
                    refine wpAnyH_ready (rs := [14]) (by kernel_rfl) (by simp) ?_
                    refine AllReadyH.cons rfl (fun K hK => ?_) ?_
                    · simp only [List.getElem_toArray, List.getElem_cons_zero, List.getElem_cons_succ]
                      go_simp
                      refine hK.out _ _ (S8.go (Below.heap_setCell _ ⟨X, 4, none⟩ _ _ (show lb ≠ X by have := HI.out.hX3; omega))) (fun hHeld => ?_)
                      clear hK K
                      try simp only [List.getElem_toArray, List.getElem_cons_zero, List.getElem_cons_succ, Act.put, List.setIfInBounds_toArray, List.set_cons_zero, List.set_cons_succ]
                      refine wpAnyH_done (by kernel_rfl) ?_ _
                      dsimp only [NoPanic]
                      clear hHeld x4 y4
                      go_wp2_with fail
                      refine ⟨⟨j + 1, hjl, rfl, _, resI_step HI.out (H3.out) gX8 own8 bel8⟩, ?_⟩
                      simp [intOf]
                      omega
                    exact AllReadyH.nil
                  exact AllReadyH.nil
                exact AllReadyH.nil
              exact AllReadyH.nil
            exact AllReadyH.nil
          · have hjl' : ¬ (j : Int) < (F : Int) := by omega
            go_wp2_with fail
            (with_reducible refine (pick_at qc 4 (F : Int) Hf _ Qc (by decide) (by decide)).mono ?_)
            rintro e wq ⟨rfl, hwq⟩
            obtain rfl := hwq
            obtain rfl : j = F := by omega
            have hXl : X < wr.heap.size := (Array.getElem?_eq_some_iff.1 HI.out.hX).1
            have x1 : wr.cell? ⟨X, 1, none⟩ = some (.int .i64 pb) := by rw [Lib.cell_of_heap HI.out.hX]; rfl
            have x2 : wr.cell? ⟨X, 2, none⟩ = some (.int .i64 pc) := by rw [Lib.cell_of_heap HI.out.hX]; rfl
            have x5 : wr.cell? ⟨X, 5, none⟩ = some (.slice none 0 0) := by rw [Lib.cell_of_heap HI.out.hX]; rfl
            have y5 : wr.frozen? ⟨X, 5, none⟩ = false := Lib.frozen_of_heap HI.out.hX 5
            have hw1 : IntKind.i64.wrap (1 - pc) = 1 - pc := IntWalk.i64_in _ (by omega)
            go_upto_if 82 with fail
            go_cut [9] (fun s9 wx => CutR wo X ⟨qa, qb, qc, qd⟩ s9 wx)
            case first =>
              by_cases hr : qc.tmod 3 = 0
              · go_wp2_with fail
                go_meet
                exact cutR_yes HI.out Ha.out Hb.out Hc.out (by rw [Hd.out]) Hf.out hr
              · go_wp2_with fail
                go_meet
                exact cutR_no HI.out Ha.out Hb.out Hc.out (by rw [Hd.out]) Hf.out hr
            case rest =>
              obtain ⟨wd, hwd⟩ : ∃ x, x = wc := ⟨_, rfl⟩
              subst hwd
              obtain ⟨rfl, x, hLI, hLT, gX, hBo⟩ := hcut
              have hPl : P < wo.heap.size := (Array.getElem?_eq_some_iff.1 HJ.out.hP).1
              have hXP : X ≠ P := by omega
              obtain ⟨LA1, lc1, hv, _⟩ := own_slice HJ.out.own
              subst hv
              have gP := (hBo.block _ hPl).trans HJ.out.hP
              have hPd : P ≤ wd.heap.size := by have := hBo.size; omega
              have p2 : wd.cell? ⟨P, 2, none⟩ = some (.slice LA1 k lc1) := by rw [Lib.cell_of_heap gP]; rfl
              have x0 : wd.cell? ⟨X, 0, none⟩ = some (.int .i64 x.day) := by rw [Lib.cell_of_heap gX]; rfl
              have x1 : wd.cell? ⟨X, 1, none⟩ = some (.int .i64 x.line) := by rw [Lib.cell_of_heap gX]; rfl
              have x2 : wd.cell? ⟨X, 2, none⟩ = some (.int .i64 x.art) := by rw [Lib.cell_of_heap gX]; rfl
              have x3 : wd.cell? ⟨X, 3, none⟩ = some (.int .i64 x.amt) := by rw [Lib.cell_of_heap gX]; rfl
              have x4 : wd.cell? ⟨X, 4, none⟩ = some (.slice x.FA x.facts.length x.fc) := by rw [Lib.cell_of_heap gX]; rfl
              have x5 : wd.cell? ⟨X, 5, none⟩ = some (.slice x.RA x.rests.length x.rc) := by rw [Lib.cell_of_heap gX]; rfl
              obtain ⟨j0, hj0, hy0, hy1, hy2⟩ := info_parts info_line
              go_wp2_with (at_builtin; refine app_src2 (w0 := w) (P + 1) (by have := HJ.out.hp0; omega) ?c0 rfl _ _ 34 rfl 62 j0 _ 6 80 Tryd.underlying34 hj0 hy0 hy1 hy2 rfl (by decide) (.slice LA1 k lc1) k (lines.flatMap lineV) rfl ((own_below HJ.out.own hBo).alloc _) (bal (bgo HJ.out.bel hBo) _) (.slice (some ⟨wd.heap.size, 0, none⟩) 1 1) 1 (lineV x) rfl (block_src wd (lineV x) _ _ 1 1 6 rfl) (by simp [lineV, Value.oneCell']) (by unfold maxLen; omega) (by omega) ?_)
              case c0 => simp; omega
              intro v7 w7 own7 bel7 kept7
              obtain ⟨LA7, lc7, hv7, _⟩ := own_slice own7
              subst hv7
              have hXd : X < wd.heap.size := (Array.getElem?_eq_some_iff.1 gX).1
              have hBda := bal (Below.refl wd.heap.size wd) (.cells (lineV x).toArray 62)
              have hBsz := hBo.size
              have gP7 := (kept7.2 P (by simp; omega) (own_ne HJ.out.own (by omega))).trans ((hBda.block _ (by omega)).trans gP)
              have gX7 := (kept7.2 X (by simp; omega) (fun hv => by have := (HJ.out.own.lt X hv).2; omega)).trans ((hBda.block _ hXd).trans gX)
              have hgs := gross_snoc Hq.out
              have hds := deduct_snoc Hq.out
              have hgb := gross_bound (ls.take k)
              have hdb := deduct_bound (ls.take k)
              have hll : (ls.take k).length ≤ 20 := by rw [List.length_take]; omega
              obtain ⟨g, hg⟩ : ∃ g, grossF (ls.take k) = g := ⟨_, rfl⟩
              obtain ⟨d, hd⟩ : ∃ d, deductF (ls.take k) = d := ⟨_, rfl⟩
              rw [hg] at hgs hgb gP7 gP
              rw [hd] at hds hdb gP7 gP
              rw [← hLI.line, ← hLI.amt] at hgs hds
              have HF := Lib.hid (fun W g' d' => resJ_fin (W := W) (g := g') (d := d') HJ.out hBo Hq.out hLI hLT kept7 own7)
              have hPX : P ≠ X := fun e => hXP e.symm
              have hlx : x.line = pickF qb 4 := hLI.line
              have hax : x.amt = pickF qd 2000001 - 1000000 := hLI.amt
              obtain ⟨xd, xl, xa, xm, xFA, xfc, xf, xRA, xrc, xr⟩ := x
              dsimp only at x0 x1 x2 x3 x4 x5 hgs hds hlx hax
              have hxmb : -1000000 ≤ xm ∧ xm ≤ 1000000 := by have := pickF_lt qd 2000001 (by omega); omega
              clear p2 x0 x1 x2 x3 x4 x5 kept7 own7 hLI hLT hg hd gX gP hBda hlx hax
              have p2 : w7.cell? ⟨P, 2, none⟩ = some (.slice LA1 k lc1) := by rw [Lib.cell_of_heap gP7]; rfl
              have p3 : w7.cell? ⟨P, 3, none⟩ = some (.int .i64 g) := by rw [Lib.cell_of_heap gP7]; rfl
              have p5 : w7.cell? ⟨P, 5, none⟩ = some (.int .i64 d) := by rw [Lib.cell_of_heap gP7]; rfl
              have f7 : ∀ j, w7.frozen? ⟨P, j, none⟩ = false := fun j => Lib.frozen_of_heap gP7 j
              have x1 : w7.cell? ⟨X, 1, none⟩ = some (.int .i64 xl) := by rw [Lib.cell_of_heap gX7]; rfl
              have x3 : w7.cell? ⟨X, 3, none⟩ = some (.int .i64 xm) := by rw [Lib.cell_of_heap gX7]; rfl
              have hsz : ∀ j v, (w7.setCell ⟨P, j, none⟩ v).heap.size = w7.heap.size := fun j v => by simp [World.setCell]
              have hP7 : w.heap.size ≤ P := by have := HJ.out.hp0; omega
              by_cases h0 : xl = 0
              · subst h0
                have hwg : IntKind.i64.wrap (g + xm) = g + xm := IntWalk.i64_in _ (by omega)
                go_wp2_with fail
                go_roundw
                case rel =>
                  refine ⟨k + 1, by omega, by omega, by go_num, _, _, HF.out _ (g + xm) d (by rw [hgs, if_pos rfl]) (by rw [hds, if_neg (by decide)]; omega) (by rw [setCell_heap (setCell_heap gP7)]; rfl) (fun b hb => (Below.heap_setCell _ _ _ _ hb).trans (Below.heap_setCell _ _ _ _ hb)) (by simp [World.setCell]) ((bel7.setCell hP7 _).setCell hP7 _)⟩
                case measure => simp [intOf]; omega
              · by_cases h1 : xl = 1
                · subst h1
                  have hwg : IntKind.i64.wrap (d + xm) = d + xm := IntWalk.i64_in _ (by omega)
                  go_wp2_with fail
                  go_roundw
                  case rel =>
                    refine ⟨k + 1, by omega, by omega, by go_num, _, _, HF.out _ g (d + xm) (by rw [hgs, if_neg (by decide)]; omega) (by rw [hds, if_pos rfl]) (by rw [setCell_heap (setCell_heap gP7)]; rfl) (fun b hb => (Below.heap_setCell _ _ _ _ hb).trans (Below.heap_setCell _ _ _ _ hb)) (by simp [World.setCell]) ((bel7.setCell hP7 _).setCell hP7 _)⟩
                  case measure => simp [intOf]; omega
                · have b0 : (xl == 0) = false := beq_eq_false_iff_ne.2 h0
                  have b1 : (xl == 1) = false := beq_eq_false_iff_ne.2 h1
                  go_wp2_with fail
                  go_roundw
                  case rel =>
                    refine ⟨k + 1, by omega, by omega, by go_num, _, _, HF.out _ g d (by rw [hgs, if_neg h0]; omega) (by rw [hds, if_neg h1]; omega) (by rw [setCell_heap gP7]; rfl) (fun b hb => (Below.heap_setCell _ _ _ _ hb)) (by simp [World.setCell]) (bel7.setCell hP7 _)⟩
                  case measure => simp [intOf]; omega
    · have hlt' : ¬ ((k : Int) < (N : Int) ∧ (k : Int) < 20) := by omega
      have htk : ls.take k = ls.take 20 := by
        by_cases h20 : k = 20
        · rw [h20]
        · have : k = N := by omega
          rw [this, List.take_of_length_le (by rw [HN.out]; omega), List.take_of_length_le (by rw [HN.out]; omega)]
      have hPl : P < wo.heap.size := (Array.getElem?_eq_some_iff.1 HJ.out.hP).1
      have gP := HJ.out.hP
      rw [htk] at gP
      have hgb := gross_bound (ls.take 20)
      have hdb := deduct_bound (ls.take 20)
      have hll : (ls.take 20).length ≤ 20 := by rw [List.length_take]; omega
      obtain ⟨g, hg⟩ : ∃ g, grossF (ls.take 20) = g := ⟨_, rfl⟩
      obtain ⟨d, hd⟩ : ∃ d, deductF (ls.take 20) = d := ⟨_, rfl⟩
      rw [hg] at hgb gP
      rw [hd] at hdb gP
      obtain ⟨t, ht⟩ : ∃ t, g.tdiv 5 = t := ⟨_, rfl⟩
      have htb : -20000000 ≤ t ∧ t ≤ 20000000 := by
        rw [← ht]
        by_cases hg0 : 0 ≤ g
        · rw [Int.tdiv_eq_ediv_of_nonneg hg0]; omega
        · obtain ⟨q, hq⟩ : ∃ q : Int, g = -q := ⟨-g, by omega⟩
          rw [hq, Int.neg_tdiv, Int.tdiv_eq_ediv_of_nonneg (by omega)]; omega
      have hw1 : IntKind.i64.wrap (g - t) = g - t := IntWalk.i64_in _ (by omega)
      have hw2 : IntKind.i64.wrap (g - t - d) = g - t - d := IntWalk.i64_in _ (by omega)
      have hw3 : IntKind.i64.wrap t = t := IntWalk.i64_in _ (by omega)
      have p3 : wo.cell? ⟨P, 3, none⟩ = some (.int .i64 g) := by rw [Lib.cell_of_heap gP]; rfl
      have p4 : wo.cell? ⟨P, 4, none⟩ = some (.int .i64 0) := by rw [Lib.cell_of_heap gP]; rfl
      have p5 : wo.cell? ⟨P, 5, none⟩ = some (.int .i64 d) := by rw [Lib.cell_of_heap gP]; rfl
      have p8 : wo.cell? ⟨P, 8, none⟩ = some (.int .i64 0) := by rw [Lib.cell_of_heap gP]; rfl
      have f0 : ∀ j, wo.frozen? ⟨P, j, none⟩ = false := fun j => Lib.frozen_of_heap gP j
      have HG := Lib.hid hg
      have HD := Lib.hid hd
      have HTX := Lib.hid ht
      have Htk := Lib.hid htk
      have hp0 := HJ.out.hp0
      have hPw : w.heap.size ≤ P := by omega
      have hkN1 : k ≤ N := hkN
      have hK0 : ResK w P k m g t d (g - t - d) v lines os 0 (.slice none 0 0) ((wo.setCell ⟨P, 4, none⟩ (.int .i64 t)).setCell ⟨P, 8, none⟩ (.int .i64 (g - t - d))) := by
        have hne : ∀ b, b ≠ P → ((wo.setCell ⟨P, 4, none⟩ (.int .i64 t)).setCell ⟨P, 8, none⟩ (.int .i64 (g - t - d))).heap[b]? = wo.heap[b]? := fun b hb => (Below.heap_setCell _ _ _ _ hb).trans (Below.heap_setCell _ _ _ _ hb)
        refine ⟨?_, (hne _ (by omega)).trans HJ.out.hR, own_to HJ.out.own fun b hb => hne b (by have := (HJ.out.own.lt b hb).1; omega), ⟨rfl, .inl ⟨rfl, rfl⟩⟩, fun y hy => ?_, (HJ.out.bel.setCell hPw _).setCell hPw _, hp0⟩
        · rw [setCell_heap (setCell_heap gP)]
          rw [show takenSum (os.take 0) = 0 from rfl, Int.sub_zero]
          rfl
        · refine lineT_keep (HJ.out.ok y hy) (by simp [World.setCell]) fun b cs fr hb => hne b ?_
          rintro rfl
          rw [gP] at hb
          injection hb with hb
          injection hb with _ e _
          exact absurd e (by decide)
      have HK0 := Lib.hid hK0
      clear hK0 gP hg hd htk
      by_cases hkN : k < N
      · have hc1 : (k : Int) < (N : Int) := by omega
        have hc2 : ¬ (k : Int) < 20 := by omega
        go_wp2_with fail
        clear p3 p4 p5 p8 f0 ht
        go_loopw [11] (fun q wr => ∃ j : Nat, j ≤ M ∧ j ≤ 5 ∧ q = .int .i64 (j : Int) ∧ ∃ tv, ResK w P k m g t d (g - t - d) v lines os j tv wr) (fun q _ => 5 - (intOf q).toNat)
        case atStart => exact ⟨0, by omega, by omega, rfl, _, HK0.out⟩
        case round =>
          obtain ⟨j, hjM, hj5, rfl, tv, hK⟩ := hrel
          have HK := Lib.hid hK
          clear hK
          by_cases hlj : j < M ∧ j < 5
          · have hj1 : (j : Int) < (M : Int) := by omega
            have hj2 : (j : Int) < 5 := by omega
            obtain ⟨q, hq⟩ : ∃ q, os[j]? = some q := ⟨_, List.getElem?_eq_getElem (by rw [HM.out]; omega)⟩
            have hqo := hos q (List.mem_of_getElem? hq)
            obtain ⟨ob, oo, eO, hob, hco⟩ := HO.out.2 (by omega)
            subst eO
            obtain ⟨pv, hpv⟩ : ∃ v, pickF q 1000 = v := ⟨_, rfl⟩
            have hpvb := pickF_lt q 1000 (by omega)
            rw [hpv] at hpvb
            have Hpv := Lib.hid hpv
            have Hq := Lib.hid hq
            have oc' : wr.cell? ⟨ob, oo + j, none⟩ = some (.int .i64 q) := (HK.out.bel.cell (p := ⟨ob, oo + j, none⟩) hob).trans (hco j (.int .i64 q) (by rw [show intV os = os.map (Value.int .i64) from rfl, List.getElem?_map, hq]; rfl))
            have hj1w : IntKind.i64.wrap ((j : Int) + 1) = (j : Int) + 1 := IntWalk.i64_in _ (by omega)
            clear hpv hq hco
            go_wp2_with fail
            (with_reducible refine (pick_at q 1000 pv Hpv _ hqo (by decide) (by decide)).mono ?_)
            rintro e wq ⟨rfl, hwq⟩
            obtain rfl := hwq
            obtain ⟨X, hX⟩ : ∃ x, x = wr.heap.size := ⟨_, rfl⟩
            obtain ⟨w5, hw5⟩ : ∃ x, x = wr.alloc (.cells #[.int .i64 ((j : Int) + 1), .int .i64 pv] 78) := ⟨_, rfl⟩
            have hB5 : Below wr.heap.size wr w5 := by rw [hw5]; exact bal (Below.refl _ _) _
            have gX5 : w5.heap[X]? = some (.cells #[.int .i64 ((j : Int) + 1), .int .i64 pv] 78 (0, 0)) := by rw [hw5, hX]; exact World.alloc_heap_new _ _
            have hPl : P < wr.heap.size := (Array.getElem?_eq_some_iff.1 HK.out.hP).1
            have gP5 := (hB5.block _ hPl).trans HK.out.hP
            have hXP : X ≠ P := by omega
            have hPX : P ≠ X := by omega
            have hX5l : X < w5.heap.size := (Array.getElem?_eq_some_iff.1 gX5).1
            have hP5l : P < w5.heap.size := Nat.lt_of_lt_of_le hPl hB5.size
            have hX3 : wr.heap.size ≤ X := by omega
            obtain ⟨TA1, tc1, hv, _⟩ := own_slice HK.out.tk
            subst hv
            obtain ⟨sn, hsn⟩ : ∃ s, takenSum (os.take j) = s := ⟨_, rfl⟩
            have hsb := takenSum_bd os j hj5
            rw [hsn] at gP5 hsb
            have Hsn := Lib.hid hsn
            have p7 : w5.cell? ⟨P, 7, none⟩ = some (.slice TA1 j tc1) := by rw [Lib.cell_of_heap gP5]; rfl
            have x0 : w5.cell? ⟨X, 0, none⟩ = some (.int .i64 ((j : Int) + 1)) := by rw [Lib.cell_of_heap gX5]; rfl
            have x1 : w5.cell? ⟨X, 1, none⟩ = some (.int .i64 pv) := by rw [Lib.cell_of_heap gX5]; rfl
            obtain ⟨j0, hj0, hy0, hy1, hy2⟩ := info_parts info_taken
            clear oc' hsn
            go_upto_region 24 with fail
            rw [← hw5, ← hX]
            clear hw5 hX
            go_wp2_with (at_builtin; refine app_src2 (w0 := w) (P + 1) (by have := HK.out.hp0; omega) ?c0 rfl _ _ 35 rfl 78 j0 _ 2 16 Tryd.underlying35 hj0 hy0 hy1 hy2 rfl (by decide) (.slice TA1 j tc1) j ((takenF (os.take j)).flatMap takenV) rfl ((own_below HK.out.tk hB5).alloc _) (bal (bgo HK.out.bel hB5) _) (.slice (some ⟨w5.heap.size, 0, none⟩) 1 1) 1 [.int .i64 ((j : Int) + 1), .int .i64 pv] rfl (block_src w5 [.int .i64 ((j : Int) + 1), .int .i64 pv] _ _ 1 1 2 rfl) (by simp [Value.oneCell']) (by unfold maxLen; omega) (by omega) ?_)
            case c0 => simp; omega
            intro v7 w7 own7 bel7 kept7
            obtain ⟨TA7, tc7, hv7, _⟩ := own_slice own7
            subst hv7
            have hBda := bal (Below.refl w5.heap.size w5) (.cells #[.int .i64 ((j : Int) + 1), .int .i64 pv] 78)
            have gP7 := (kept7.2 P (by simp; omega) (own_ne HK.out.tk (by omega))).trans ((hBda.block _ (by omega)).trans gP5)
            have gX7 := (kept7.2 X (by simp; omega) (fun hv => by have := (HK.out.tk.lt X hv).2; omega)).trans ((hBda.block _ (by omega)).trans gX5)
            have HF := Lib.hid (fun W => resK_fin (W := W) HK.out (bgo hB5 hBda) Hq.out Hpv.out kept7 own7)
            clear p7 x0 x1 gP5 gX5 kept7 own7 hBda
            have p7 : w7.cell? ⟨P, 7, none⟩ = some (.slice TA1 j tc1) := by rw [Lib.cell_of_heap gP7]; rfl
            have p8 : w7.cell? ⟨P, 8, none⟩ = some (.int .i64 (g - t - d - sn)) := by rw [Lib.cell_of_heap gP7]; rfl
            have f7 : ∀ j, w7.frozen? ⟨P, j, none⟩ = false := fun j => Lib.frozen_of_heap gP7 j
            have x1 : w7.cell? ⟨X, 1, none⟩ = some (.int .i64 pv) := by rw [Lib.cell_of_heap gX7]; rfl
            have hP7 : w.heap.size ≤ P := by have := HK.out.hp0; omega
            have hwn : IntKind.i64.wrap (g - t - d - sn - pv) = g - t - d - sn - pv := IntWalk.i64_in _ (by omega)
            go_wp2_with fail
            go_roundw
            case rel =>
              refine ⟨j + 1, by omega, by omega, by go_num, _, HF.out _ (by rw [setCell_heap (setCell_heap gP7), Hsn.out]; rfl) (fun b hb => (Below.heap_setCell _ _ _ _ hb).trans (Below.heap_setCell _ _ _ _ hb)) (by simp [World.setCell]) ((bel7.setCell hP7 _).setCell hP7 _)⟩
            case measure => simp [intOf]; omega
          · have hlj' : ¬ ((j : Int) < (M : Int) ∧ (j : Int) < 5) := by omega
            have hos5 : os.take j = os.take 5 := by
              by_cases h5 : j = 5
              · rw [h5]
              · have : j = M := by omega
                rw [this, List.take_of_length_le (by rw [HM.out]; omega), List.take_of_length_le (by rw [HM.out]; omega)]
            have gP := HK.out.hP
            have gR := HK.out.hR
            obtain ⟨LA1, lc1, hv, hSl⟩ := own_slice HK.out.ln
            subst hv
            obtain ⟨TA1, tc1, hv, hSt⟩ := own_slice HK.out.tk
            subst hv
            obtain ⟨nt, hnt⟩ : ∃ n, g - t - d - takenSum (os.take j) = n := ⟨_, rfl⟩
            rw [hnt] at gP
            obtain ⟨R, hR⟩ : ∃ r, r = w.heap.size := ⟨_, rfl⟩
            rw [← hR] at gR ⊢
            have hp0 := HK.out.hp0
            have hRP : R ≠ P := by omega
            have hPR : P ≠ R := by omega
            have HR := Lib.hid hR
            clear hR
            have p0 : wr.cell? ⟨P, 0, none⟩ = some (.string ⟨#[97, 110, 110]⟩) := by rw [Lib.cell_of_heap gP]; rfl
            have p1 : wr.cell? ⟨P, 1, none⟩ = some (.int .i64 m) := by rw [Lib.cell_of_heap gP]; rfl
            have p2 : wr.cell? ⟨P, 2, none⟩ = some (.slice LA1 k lc1) := by rw [Lib.cell_of_heap gP]; rfl
            have p3 : wr.cell? ⟨P, 3, none⟩ = some (.int .i64 g) := by rw [Lib.cell_of_heap gP]; rfl
            have p4 : wr.cell? ⟨P, 4, none⟩ = some (.int .i64 t) := by rw [Lib.cell_of_heap gP]; rfl
            have p5 : wr.cell? ⟨P, 5, none⟩ = some (.int .i64 d) := by rw [Lib.cell_of_heap gP]; rfl
            have p6 : wr.cell? ⟨P, 6, none⟩ = some (.int .i64 0) := by rw [Lib.cell_of_heap gP]; rfl
            have p7 : wr.cell? ⟨P, 7, none⟩ = some (.slice TA1 j tc1) := by rw [Lib.cell_of_heap gP]; rfl
            have p8 : wr.cell? ⟨P, 8, none⟩ = some (.int .i64 nt) := by rw [Lib.cell_of_heap gP]; rfl
            have r0 : wr.cell? ⟨R, 0, none⟩ = some (.string ⟨#[]⟩) := by rw [Lib.cell_of_heap gR]; rfl
            have r1 : wr.cell? ⟨R, 1, none⟩ = some (.int .i64 0) := by rw [Lib.cell_of_heap gR]; rfl
            have r2 : wr.cell? ⟨R, 2, none⟩ = some (.slice none 0 0) := by rw [Lib.cell_of_heap gR]; rfl
            have r3 : wr.cell? ⟨R, 3, none⟩ = some (.int .i64 0) := by rw [Lib.cell_of_heap gR]; rfl
            have r4 : wr.cell? ⟨R, 4, none⟩ = some (.int .i64 0) := by rw [Lib.cell_of_heap gR]; rfl
            have r5 : wr.cell? ⟨R, 5, none⟩ = some (.int .i64 0) := by rw [Lib.cell_of_heap gR]; rfl
            have r6 : wr.cell? ⟨R, 6, none⟩ = some (.int .i64 0) := by rw [Lib.cell_of_heap gR]; rfl
            have r7 : wr.cell? ⟨R, 7, none⟩ = some (.slice none 0 0) := by rw [Lib.cell_of_heap gR]; rfl
            have r8 : wr.cell? ⟨R, 8, none⟩ = some (.int .i64 0) := by rw [Lib.cell_of_heap gR]; rfl
            have fR : ∀ j, wr.frozen? ⟨R, j, none⟩ = false := fun j => Lib.frozen_of_heap gR j
            have HFin : Hid (∀ W : World, (∀ b, b ≠ R → W.heap[b]? = wr.heap[b]?) → W.heap.size = wr.heap.size → Below w.heap.size w W →
                ResP w month ls os (.returned (.agg #[.string ⟨#[97, 110, 110]⟩, .int .i64 m, .slice LA1 k lc1, .int .i64 g, .int .i64 t, .int .i64 d, .int .i64 0, .slice TA1 j tc1, .int .i64 nt])) W) :=
              Lib.hid fun W h1 h2 h3 => res_final HR.out HN.out HM.out HJ.out.len HJ.out.are HK.out Hm.out HG.out HD.out HTX.out Htk.out hos5 hkN1 hk20 hjM hj5 hnt hos h1 h2 h3
            have hwR : w.heap.size ≤ R := Nat.le_of_eq HR.out.symm
            have hbel := HK.out.bel
            clear hos5 hnt gP gR hSl hSt
            by_cases hjM' : j < M
            · have hc1 : (j : Int) < (M : Int) := by omega
              have hc2 : ¬ (j : Int) < 5 := by omega
              go_wp2_with fail
              refine bodyPost_ret (v := .agg #[.string ⟨#[97, 110, 110]⟩, .int .i64 m, .slice LA1 k lc1, .int .i64 g, .int .i64 t, .int .i64 d, .int .i64 0, .slice TA1 j tc1, .int .i64 nt]) (by simp [results, Tryd.results7, go_sem, r0, r1, r2, r3, r4, r5, r6, r7, r8]) rfl ?_
              exact HFin.out _ (fun b hb => heap_set9 _ _ _ _ _ _ _ _ _ _ _ _ hb) (by simp [World.setCell]) (((((((((hbel.setCell hwR _).setCell hwR _).setCell hwR _).setCell hwR _).setCell hwR _).setCell hwR _).setCell hwR _).setCell hwR _).setCell hwR _)
            · have hc1 : ¬ (j : Int) < (M : Int) := by omega
              go_wp2_with fail
              refine bodyPost_ret (v := .agg #[.string ⟨#[97, 110, 110]⟩, .int .i64 m, .slice LA1 k lc1, .int .i64 g, .int .i64 t, .int .i64 d, .int .i64 0, .slice TA1 j tc1, .int .i64 nt]) (by simp [results, Tryd.results7, go_sem, r0, r1, r2, r3, r4, r5, r6, r7, r8]) rfl ?_
              exact HFin.out _ (fun b hb => heap_set9 _ _ _ _ _ _ _ _ _ _ _ _ hb) (by simp [World.setCell]) (((((((((hbel.setCell hwR _).setCell hwR _).setCell hwR _).setCell hwR _).setCell hwR _).setCell hwR _).setCell hwR _).setCell hwR _).setCell hwR _)
      · have hc1 : ¬ (k : Int) < (N : Int) := by omega
        go_wp2_with fail
        clear p3 p4 p5 p8 f0 ht
        go_loopw [11] (fun q wr => ∃ j : Nat, j ≤ M ∧ j ≤ 5 ∧ q = .int .i64 (j : Int) ∧ ∃ tv, ResK w P k m g t d (g - t - d) v lines os j tv wr) (fun q _ => 5 - (intOf q).toNat)
        case atStart => exact ⟨0, by omega, by omega, rfl, _, HK0.out⟩
        case round =>
          obtain ⟨j, hjM, hj5, rfl, tv, hK⟩ := hrel
          have HK := Lib.hid hK
          clear hK
          by_cases hlj : j < M ∧ j < 5
          · have hj1 : (j : Int) < (M : Int) := by omega
            have hj2 : (j : Int) < 5 := by omega
            obtain ⟨q, hq⟩ : ∃ q, os[j]? = some q := ⟨_, List.getElem?_eq_getElem (by rw [HM.out]; omega)⟩
            have hqo := hos q (List.mem_of_getElem? hq)
            obtain ⟨ob, oo, eO, hob, hco⟩ := HO.out.2 (by omega)
            subst eO
            obtain ⟨pv, hpv⟩ : ∃ v, pickF q 1000 = v := ⟨_, rfl⟩
            have hpvb := pickF_lt q 1000 (by omega)
            rw [hpv] at hpvb
            have Hpv := Lib.hid hpv
            have Hq := Lib.hid hq
            have oc' : wr.cell? ⟨ob, oo + j, none⟩ = some (.int .i64 q) := (HK.out.bel.cell (p := ⟨ob, oo + j, none⟩) hob).trans (hco j (.int .i64 q) (by rw [show intV os = os.map (Value.int .i64) from rfl, List.getElem?_map, hq]; rfl))
            have hj1w : IntKind.i64.wrap ((j : Int) + 1) = (j : Int) + 1 := IntWalk.i64_in _ (by omega)
            clear hpv hq hco
            go_wp2_with fail
            (with_reducible refine (pick_at q 1000 pv Hpv _ hqo (by decide) (by decide)).mono ?_)
            rintro e wq ⟨rfl, hwq⟩
            obtain rfl := hwq
            obtain ⟨X, hX⟩ : ∃ x, x = wr.heap.size := ⟨_, rfl⟩
            obtain ⟨w5, hw5⟩ : ∃ x, x = wr.alloc (.cells #[.int .i64 ((j : Int) + 1), .int .i64 pv] 78) := ⟨_, rfl⟩
            have hB5 : Below wr.heap.size wr w5 := by rw [hw5]; exact bal (Below.refl _ _) _
            have gX5 : w5.heap[X]? = some (.cells #[.int .i64 ((j : Int) + 1), .int .i64 pv] 78 (0, 0)) := by rw [hw5, hX]; exact World.alloc_heap_new _ _
            have hPl : P < wr.heap.size := (Array.getElem?_eq_some_iff.1 HK.out.hP).1
            have gP5 := (hB5.block _ hPl).trans HK.out.hP
            have hXP : X ≠ P := by omega
            have hPX : P ≠ X := by omega
            have hX5l : X < w5.heap.size := (Array.getElem?_eq_some_iff.1 gX5).1
            have hP5l : P < w5.heap.size := Nat.lt_of_lt_of_le hPl hB5.size
            have hX3 : wr.heap.size ≤ X := by omega
            obtain ⟨TA1, tc1, hv, _⟩ := own_slice HK.out.tk
            subst hv
            obtain ⟨sn, hsn⟩ : ∃ s, takenSum (os.take j) = s := ⟨_, rfl⟩
            have hsb := takenSum_bd os j hj5
            rw [hsn] at gP5 hsb
            have Hsn := Lib.hid hsn
            have p7 : w5.cell? ⟨P, 7, none⟩ = some (.slice TA1 j tc1) := by rw [Lib.cell_of_heap gP5]; rfl
            have x0 : w5.cell? ⟨X, 0, none⟩ = some (.int .i64 ((j : Int) + 1)) := by rw [Lib.cell_of_heap gX5]; rfl
            have x1 : w5.cell? ⟨X, 1, none⟩ = some (.int .i64 pv) := by rw [Lib.cell_of_heap gX5]; rfl
            obtain ⟨j0, hj0, hy0, hy1, hy2⟩ := info_parts info_taken
            clear oc' hsn
            go_upto_region 24 with fail
            rw [← hw5, ← hX]
            clear hw5 hX
            go_wp2_with (at_builtin; refine app_src2 (w0 := w) (P + 1) (by have := HK.out.hp0; omega) ?c0 rfl _ _ 35 rfl 78 j0 _ 2 16 Tryd.underlying35 hj0 hy0 hy1 hy2 rfl (by decide) (.slice TA1 j tc1) j ((takenF (os.take j)).flatMap takenV) rfl ((own_below HK.out.tk hB5).alloc _) (bal (bgo HK.out.bel hB5) _) (.slice (some ⟨w5.heap.size, 0, none⟩) 1 1) 1 [.int .i64 ((j : Int) + 1), .int .i64 pv] rfl (block_src w5 [.int .i64 ((j : Int) + 1), .int .i64 pv] _ _ 1 1 2 rfl) (by simp [Value.oneCell']) (by unfold maxLen; omega) (by omega) ?_)
            case c0 => simp; omega
            intro v7 w7 own7 bel7 kept7
            obtain ⟨TA7, tc7, hv7, _⟩ := own_slice own7
            subst hv7
            have hBda := bal (Below.refl w5.heap.size w5) (.cells #[.int .i64 ((j : Int) + 1), .int .i64 pv] 78)
            have gP7 := (kept7.2 P (by simp; omega) (own_ne HK.out.tk (by omega))).trans ((hBda.block _ (by omega)).trans gP5)
            have gX7 := (kept7.2 X (by simp; omega) (fun hv => by have := (HK.out.tk.lt X hv).2; omega)).trans ((hBda.block _ (by omega)).trans gX5)
            have HF := Lib.hid (fun W => resK_fin (W := W) HK.out (bgo hB5 hBda) Hq.out Hpv.out kept7 own7)
            clear p7 x0 x1 gP5 gX5 kept7 own7 hBda
            have p7 : w7.cell? ⟨P, 7, none⟩ = some (.slice TA1 j tc1) := by rw [Lib.cell_of_heap gP7]; rfl
            have p8 : w7.cell? ⟨P, 8, none⟩ = some (.int .i64 (g - t - d - sn)) := by rw [Lib.cell_of_heap gP7]; rfl
            have f7 : ∀ j, w7.frozen? ⟨P, j, none⟩ = false := fun j => Lib.frozen_of_heap gP7 j
            have x1 : w7.cell? ⟨X, 1, none⟩ = some (.int .i64 pv) := by rw [Lib.cell_of_heap gX7]; rfl
            have hP7 : w.heap.size ≤ P := by have := HK.out.hp0; omega
            have hwn : IntKind.i64.wrap (g - t - d - sn - pv) = g - t - d - sn - pv := IntWalk.i64_in _ (by omega)
            go_wp2_with fail
            go_roundw
            case rel =>
              refine ⟨j + 1, by omega, by omega, by go_num, _, HF.out _ (by rw [setCell_heap (setCell_heap gP7), Hsn.out]; rfl) (fun b hb => (Below.heap_setCell _ _ _ _ hb).trans (Below.heap_setCell _ _ _ _ hb)) (by simp [World.setCell]) ((bel7.setCell hP7 _).setCell hP7 _)⟩
            case measure => simp [intOf]; omega
          · have hlj' : ¬ ((j : Int) < (M : Int) ∧ (j : Int) < 5) := by omega
            have hos5 : os.take j = os.take 5 := by
              by_cases h5 : j = 5
              · rw [h5]
              · have : j = M := by omega
                rw [this, List.take_of_length_le (by rw [HM.out]; omega), List.take_of_length_le (by rw [HM.out]; omega)]
            have gP := HK.out.hP
            have gR := HK.out.hR
            obtain ⟨LA1, lc1, hv, hSl⟩ := own_slice HK.out.ln
            subst hv
            obtain ⟨TA1, tc1, hv, hSt⟩ := own_slice HK.out.tk
            subst hv
            obtain ⟨nt, hnt⟩ : ∃ n, g - t - d - takenSum (os.take j) = n := ⟨_, rfl⟩
            rw [hnt] at gP
            obtain ⟨R, hR⟩ : ∃ r, r = w.heap.size := ⟨_, rfl⟩
            rw [← hR] at gR ⊢
            have hp0 := HK.out.hp0
            have hRP : R ≠ P := by omega
            have hPR : P ≠ R := by omega
            have HR := Lib.hid hR
            clear hR
            have p0 : wr.cell? ⟨P, 0, none⟩ = some (.string ⟨#[97, 110, 110]⟩) := by rw [Lib.cell_of_heap gP]; rfl
            have p1 : wr.cell? ⟨P, 1, none⟩ = some (.int .i64 m) := by rw [Lib.cell_of_heap gP]; rfl
            have p2 : wr.cell? ⟨P, 2, none⟩ = some (.slice LA1 k lc1) := by rw [Lib.cell_of_heap gP]; rfl
            have p3 : wr.cell? ⟨P, 3, none⟩ = some (.int .i64 g) := by rw [Lib.cell_of_heap gP]; rfl
            have p4 : wr.cell? ⟨P, 4, none⟩ = some (.int .i64 t) := by rw [Lib.cell_of_heap gP]; rfl
            have p5 : wr.cell? ⟨P, 5, none⟩ = some (.int .i64 d) := by rw [Lib.cell_of_heap gP]; rfl
            have p6 : wr.cell? ⟨P, 6, none⟩ = some (.int .i64 0) := by rw [Lib.cell_of_heap gP]; rfl
            have p7 : wr.cell? ⟨P, 7, none⟩ = some (.slice TA1 j tc1) := by rw [Lib.cell_of_heap gP]; rfl
            have p8 : wr.cell? ⟨P, 8, none⟩ = some (.int .i64 nt) := by rw [Lib.cell_of_heap gP]; rfl
            have r0 : wr.cell? ⟨R, 0, none⟩ = some (.string ⟨#[]⟩) := by rw [Lib.cell_of_heap gR]; rfl
            have r1 : wr.cell? ⟨R, 1, none⟩ = some (.int .i64 0) := by rw [Lib.cell_of_heap gR]; rfl
            have r2 : wr.cell? ⟨R, 2, none⟩ = some (.slice none 0 0) := by rw [Lib.cell_of_heap gR]; rfl
            have r3 : wr.cell? ⟨R, 3, none⟩ = some (.int .i64 0) := by rw [Lib.cell_of_heap gR]; rfl
            have r4 : wr.cell? ⟨R, 4, none⟩ = some (.int .i64 0) := by rw [Lib.cell_of_heap gR]; rfl
            have r5 : wr.cell? ⟨R, 5, none⟩ = some (.int .i64 0) := by rw [Lib.cell_of_heap gR]; rfl
            have r6 : wr.cell? ⟨R, 6, none⟩ = some (.int .i64 0) := by rw [Lib.cell_of_heap gR]; rfl
            have r7 : wr.cell? ⟨R, 7, none⟩ = some (.slice none 0 0) := by rw [Lib.cell_of_heap gR]; rfl
            have r8 : wr.cell? ⟨R, 8, none⟩ = some (.int .i64 0) := by rw [Lib.cell_of_heap gR]; rfl
            have fR : ∀ j, wr.frozen? ⟨R, j, none⟩ = false := fun j => Lib.frozen_of_heap gR j
            have HFin : Hid (∀ W : World, (∀ b, b ≠ R → W.heap[b]? = wr.heap[b]?) → W.heap.size = wr.heap.size → Below w.heap.size w W →
                ResP w month ls os (.returned (.agg #[.string ⟨#[97, 110, 110]⟩, .int .i64 m, .slice LA1 k lc1, .int .i64 g, .int .i64 t, .int .i64 d, .int .i64 0, .slice TA1 j tc1, .int .i64 nt])) W) :=
              Lib.hid fun W h1 h2 h3 => res_final HR.out HN.out HM.out HJ.out.len HJ.out.are HK.out Hm.out HG.out HD.out HTX.out Htk.out hos5 hkN1 hk20 hjM hj5 hnt hos h1 h2 h3
            have hwR : w.heap.size ≤ R := Nat.le_of_eq HR.out.symm
            have hbel := HK.out.bel
            clear hos5 hnt gP gR hSl hSt
            by_cases hjM' : j < M
            · have hc1 : (j : Int) < (M : Int) := by omega
              have hc2 : ¬ (j : Int) < 5 := by omega
              go_wp2_with fail
              refine bodyPost_ret (v := .agg #[.string ⟨#[97, 110, 110]⟩, .int .i64 m, .slice LA1 k lc1, .int .i64 g, .int .i64 t, .int .i64 d, .int .i64 0, .slice TA1 j tc1, .int .i64 nt]) (by simp [results, Tryd.results7, go_sem, r0, r1, r2, r3, r4, r5, r6, r7, r8]) rfl ?_
              exact HFin.out _ (fun b hb => heap_set9 _ _ _ _ _ _ _ _ _ _ _ _ hb) (by simp [World.setCell]) (((((((((hbel.setCell hwR _).setCell hwR _).setCell hwR _).setCell hwR _).setCell hwR _).setCell hwR _).setCell hwR _).setCell hwR _).setCell hwR _)
            · have hc1 : ¬ (j : Int) < (M : Int) := by omega
              go_wp2_with fail
              refine bodyPost_ret (v := .agg #[.string ⟨#[97, 110, 110]⟩, .int .i64 m, .slice LA1 k lc1, .int .i64 g, .int .i64 t, .int .i64 d, .int .i64 0, .slice TA1 j tc1, .int .i64 nt]) (by simp [results, Tryd.results7, go_sem, r0, r1, r2, r3, r4, r5, r6, r7, r8]) rfl ?_
              exact HFin.out _ (fun b hb => heap_set9 _ _ _ _ _ _ _ _ _ _ _ _ hb) (by simp [World.setCell]) (((((((((hbel.setCell hwR _).setCell hwR _).setCell hwR _).setCell hwR _).setCell hwR _).setCell hwR _).setCell hwR _).setCell hwR _).setCell hwR _)
end Go.Proofs.YtfjkmhbipkoefaaDoor
