/- The walk of the law package's Case (layer 35). Plain facts behind the fixed example of layer 35: powers by squaring; the example's blinding numbers and roots. pick and the plain part of Result (layer 35). -/
import Derived.Test.YtfjkmhbipkoefaaDoorQ15
import Derived.OpenShut
namespace Go.Proofs.YtfjkmhbipkoefaaDoor
open Go.RowKit Go.Shelf
set_option linter.unusedVariables false
set_option linter.unusedSimpArgs false
set_option maxRecDepth 100000
def ds0 : List DeclD := [⟨⟨#[98, 97, 115, 105, 99]⟩, ⟨#[69, 85, 82]⟩, 1⟩, ⟨⟨#[117, 110, 105, 111, 110]⟩, ⟨#[69, 85, 82]⟩, 2⟩, ⟨⟨#[110, 111, 116, 101]⟩, ⟨#[69, 85, 82]⟩, 4⟩, ⟨⟨#[117, 115, 100]⟩, ⟨#[85, 83, 68]⟩, 1⟩]
def case0 (LA AA : Option Addr) : CaseM := ⟨.slice none 0 0, LA, 4, ds0, AA, 2, [12, 14], .slice none 0 0, .slice none 0 0, .slice none 0 0, .slice none 0 0, ⟨#[69, 85, 82]⟩, 0⟩
def CaseP (w : World) (e : Ending) (w' : World) : Prop := ∃ LA AA, e = .returned (caseV (case0 LA AA)) ∧ CaseOk w' (case0 LA AA) ∧ Below w.heap.size w w'
set_option maxHeartbeats 2000000 in
theorem case_any (w : World) : Calls Tryd.prog 6 #[] w (CaseP w) := by
  go_enter Tryd.func6, Tryd.ntmps6
  go_wp2
  obtain ⟨W, hW⟩ : ∃ W, W = ((w.alloc (.cells #[.slice none 0 0, .slice (some ⟨w.heap.size + 1, 0, none⟩) 4 4, .slice (some ⟨w.heap.size + 1 + 1, 0, none⟩) 2 2, .slice none 0 0, .slice none 0 0, .slice none 0 0, .slice none 0 0, .string ⟨#[69, 85, 82]⟩, .int .i64 0] 33)).alloc (.cells #[.string ⟨#[98, 97, 115, 105, 99]⟩, .string ⟨#[69, 85, 82]⟩, .int .i64 1, .string ⟨#[117, 110, 105, 111, 110]⟩, .string ⟨#[69, 85, 82]⟩, .int .i64 2, .string ⟨#[110, 111, 116, 101]⟩, .string ⟨#[69, 85, 82]⟩, .int .i64 4, .string ⟨#[117, 115, 100]⟩, .string ⟨#[85, 83, 68]⟩, .int .i64 1] 66)).alloc (.cells #[.int .i64 12, .int .i64 0, .int .i64 0, .int .i64 0, .int .i64 9000, .int .i64 0, .slice none 0 0, .slice none 0 0, .int .i64 0, .int .i64 0, .string ⟨#[]⟩, .int .i64 0, .slice none 0 0, .slice none 0 0, .int .i64 14, .int .i64 0, .int .i64 0, .int .i64 0, .int .i64 9000, .int .i64 0, .slice none 0 0, .slice none 0 0, .int .i64 0, .int .i64 0, .string ⟨#[]⟩, .int .i64 0, .slice none 0 0, .slice none 0 0] 74) := ⟨_, rfl⟩
  rw [← hW]
  have q0 : W.heap[w.heap.size]? = some (.cells #[.slice none 0 0, .slice (some ⟨w.heap.size + 1, 0, none⟩) 4 4, .slice (some ⟨w.heap.size + 1 + 1, 0, none⟩) 2 2, .slice none 0 0, .slice none 0 0, .slice none 0 0, .slice none 0 0, .string ⟨#[69, 85, 82]⟩, .int .i64 0] 33 (0, 0)) := by
    rw [hW]; exact (Below.heap_alloc _ _ _ (by simp; omega)).trans (heap_alloc2_old w _ _)
  have q1 : W.heap[w.heap.size + 1]? = some (.cells #[.string ⟨#[98, 97, 115, 105, 99]⟩, .string ⟨#[69, 85, 82]⟩, .int .i64 1, .string ⟨#[117, 110, 105, 111, 110]⟩, .string ⟨#[69, 85, 82]⟩, .int .i64 2, .string ⟨#[110, 111, 116, 101]⟩, .string ⟨#[69, 85, 82]⟩, .int .i64 4, .string ⟨#[117, 115, 100]⟩, .string ⟨#[85, 83, 68]⟩, .int .i64 1] 66 (0, 0)) := by
    rw [hW]; exact (Below.heap_alloc _ _ _ (by simp)).trans (heap_alloc2_new w _ _)
  have q2 : W.heap[w.heap.size + 1 + 1]? = some (.cells #[.int .i64 12, .int .i64 0, .int .i64 0, .int .i64 0, .int .i64 9000, .int .i64 0, .slice none 0 0, .slice none 0 0, .int .i64 0, .int .i64 0, .string ⟨#[]⟩, .int .i64 0, .slice none 0 0, .slice none 0 0, .int .i64 14, .int .i64 0, .int .i64 0, .int .i64 0, .int .i64 9000, .int .i64 0, .slice none 0 0, .slice none 0 0, .int .i64 0, .int .i64 0, .string ⟨#[]⟩, .int .i64 0, .slice none 0 0, .slice none 0 0] 74 (0, 0)) := by
    rw [hW]
    have := World.alloc_heap_new ((w.alloc (.cells #[.slice none 0 0, .slice (some ⟨w.heap.size + 1, 0, none⟩) 4 4, .slice (some ⟨w.heap.size + 1 + 1, 0, none⟩) 2 2, .slice none 0 0, .slice none 0 0, .slice none 0 0, .slice none 0 0, .string ⟨#[69, 85, 82]⟩, .int .i64 0] 33)).alloc (.cells #[.string ⟨#[98, 97, 115, 105, 99]⟩, .string ⟨#[69, 85, 82]⟩, .int .i64 1, .string ⟨#[117, 110, 105, 111, 110]⟩, .string ⟨#[69, 85, 82]⟩, .int .i64 2, .string ⟨#[110, 111, 116, 101]⟩, .string ⟨#[69, 85, 82]⟩, .int .i64 4, .string ⟨#[117, 115, 100]⟩, .string ⟨#[85, 83, 68]⟩, .int .i64 1] 66)) (.cells #[.int .i64 12, .int .i64 0, .int .i64 0, .int .i64 0, .int .i64 9000, .int .i64 0, .slice none 0 0, .slice none 0 0, .int .i64 0, .int .i64 0, .string ⟨#[]⟩, .int .i64 0, .slice none 0 0, .slice none 0 0, .int .i64 14, .int .i64 0, .int .i64 0, .int .i64 0, .int .i64 9000, .int .i64 0, .slice none 0 0, .slice none 0 0, .int .i64 0, .int .i64 0, .string ⟨#[]⟩, .int .i64 0, .slice none 0 0, .slice none 0 0] 74)
    rwa [show ((w.alloc (.cells #[.slice none 0 0, .slice (some ⟨w.heap.size + 1, 0, none⟩) 4 4, .slice (some ⟨w.heap.size + 1 + 1, 0, none⟩) 2 2, .slice none 0 0, .slice none 0 0, .slice none 0 0, .slice none 0 0, .string ⟨#[69, 85, 82]⟩, .int .i64 0] 33)).alloc (.cells #[.string ⟨#[98, 97, 115, 105, 99]⟩, .string ⟨#[69, 85, 82]⟩, .int .i64 1, .string ⟨#[117, 110, 105, 111, 110]⟩, .string ⟨#[69, 85, 82]⟩, .int .i64 2, .string ⟨#[110, 111, 116, 101]⟩, .string ⟨#[69, 85, 82]⟩, .int .i64 4, .string ⟨#[117, 115, 100]⟩, .string ⟨#[85, 83, 68]⟩, .int .i64 1] 66)).heap.size = w.heap.size + 1 + 1 by simp] at this
  have hB : Below w.heap.size w W := by rw [hW]; exact bal (bal (bal (Below.refl _ _) _) _) _
  have hsz : W.heap.size = w.heap.size + 3 := by rw [hW]; simp
  clear hW
  have c0 : W.cell? ⟨w.heap.size, 0, none⟩ = some (.slice none 0 0) := by rw [Lib.cell_of_heap q0]; rfl
  have c1 : W.cell? ⟨w.heap.size, 1, none⟩ = some (.slice (some ⟨w.heap.size + 1, 0, none⟩) 4 4) := by rw [Lib.cell_of_heap q0]; rfl
  have c2 : W.cell? ⟨w.heap.size, 2, none⟩ = some (.slice (some ⟨w.heap.size + 1 + 1, 0, none⟩) 2 2) := by rw [Lib.cell_of_heap q0]; rfl
  have c3 : W.cell? ⟨w.heap.size, 3, none⟩ = some (.slice none 0 0) := by rw [Lib.cell_of_heap q0]; rfl
  have c4 : W.cell? ⟨w.heap.size, 4, none⟩ = some (.slice none 0 0) := by rw [Lib.cell_of_heap q0]; rfl
  have c5 : W.cell? ⟨w.heap.size, 5, none⟩ = some (.slice none 0 0) := by rw [Lib.cell_of_heap q0]; rfl
  have c6 : W.cell? ⟨w.heap.size, 6, none⟩ = some (.slice none 0 0) := by rw [Lib.cell_of_heap q0]; rfl
  have c7 : W.cell? ⟨w.heap.size, 7, none⟩ = some (.string ⟨#[69, 85, 82]⟩) := by rw [Lib.cell_of_heap q0]; rfl
  have c8 : W.cell? ⟨w.heap.size, 8, none⟩ = some (.int .i64 0) := by rw [Lib.cell_of_heap q0]; rfl
  refine bodyPost_ret (v := caseV (case0 (some ⟨w.heap.size + 1, 0, none⟩) (some ⟨w.heap.size + 1 + 1, 0, none⟩))) (by simp [results, Tryd.results6, go_sem, c0, c1, c2, c3, c4, c5, c6, c7, c8, caseV, case0, ds0]) rfl ?_
  refine ⟨_, _, rfl, ⟨?_, ?_, ?_, ?_, ?_, ?_⟩, hB⟩
  · exact sl_cells q1 rfl rfl
  · intro _
    refine ⟨_, _, rfl, by omega, fun k hk => ?_⟩
    have hk2 : k < 2 := hk
    rcases (show k = 0 ∨ k = 1 by omega) with rfl | rfl
    · rw [Lib.cell_of_heap q2]; rfl
    · rw [Lib.cell_of_heap q2]; rfl
  · show 4 ≤ maxLen; decide
  · show 2 ≤ maxLen; decide
  · intro x hx
    have : x = 12 ∨ x = 14 := by simpa [case0] using hx
    unfold I64
    omega
  · intro d hd
    have hd' : d ∈ ds0 := hd
    unfold ds0 at hd'
    simp only [List.mem_cons, List.not_mem_nil, or_false] at hd'
    rcases hd' with rfl | rfl | rfl | rfl <;> (dsimp only; decide)
end Go.Proofs.YtfjkmhbipkoefaaDoor
namespace Go.Proofs.YtfjkmhbipkoefaaDoor
set_option linter.unusedVariables false
set_option maxRecDepth 100000
/-- A power modulo p, by squaring. -/
def pwF : Nat → Nat → Nat → Nat → Nat
  | 0, r, b, e => r * b ^ e % Grp.P
  | f + 1, r, b, e => if e = 0 then r % Grp.P else pwF f (if e % 2 = 1 then r * b % Grp.P else r) (b * b % Grp.P) (e / 2)
theorem pwF_eq : ∀ (f r b e : Nat), pwF f r b e = r * b ^ e % Grp.P
  | 0, _, _, _ => rfl
  | f + 1, r, b, e => by
    rw [pwF]
    by_cases h : e = 0
    · rw [if_pos h, h, Nat.pow_zero, Nat.mul_one]
    · rw [if_neg h, pwF_eq f]
      exact Grp.step_pw r b e
def comF (v b : Int) : Int := if 0 ≤ b ∧ b < 1073741789 then ((pwF 31 1 4 v.toNat * pwF 31 1 9 b.toNat % Grp.P : Nat) : Int) else 0
theorem comF_eq (v b : Int) : comI v b = comF v b := by
  unfold comI comF
  split
  · unfold commitI pwI
    rw [pwF_eq, pwF_eq, Nat.one_mul, Nat.one_mul]
    show (_ : Int) * _ % ((Grp.P : Nat) : Int) = _
    rw [← Int.natCast_mul, ← Int.natCast_emod]
    rfl
  · rfl
def leafF (rows : List RowD) (bl : List Int) (k : Nat) : List ByteArray := (List.range k).map fun j => leafB (rows.getD j default).l (comF ((rows.getD j default).c % 1073741789) (bl.getD j 0)) (rows.getD j default).r
theorem leafF_eq (rows : List RowD) (bl : List Int) (k : Nat) : leafK rows bl k = leafF rows bl k := by
  unfold leafK leafF leafAt
  simp only [comF_eq]
def annB : ByteArray := ⟨#[97, 110, 110]⟩
def seedX : ByteArray := ⟨#[115, 101, 101, 100]⟩
def reason0 : ByteArray := ⟨#[118, 101, 114, 115, 105, 111, 110, 32, 49, 32, 111, 102, 32, 97, 114, 116, 105, 99, 108, 101, 32, 49, 52, 32, 111, 110, 32, 50, 48, 50, 52, 45, 48, 51, 45, 48, 53, 59, 32, 102, 97, 99, 116, 115, 32, 51, 32, 55, 59, 32, 118, 101, 114, 115, 105, 111, 110, 115, 32, 45]⟩
def R1 : List RowD := [⟨⟨#[98, 97, 115, 105, 99]⟩, 500, reason0⟩, ⟨⟨#[103, 114, 111, 115, 115]⟩, 500, ⟨#[115, 117, 109]⟩⟩, ⟨⟨#[116, 97, 120]⟩, 50, ⟨#[116, 97, 120]⟩⟩, ⟨⟨#[100, 101, 100, 117, 99, 116]⟩, 0, ⟨#[115, 117, 109]⟩⟩, ⟨⟨#[102, 108, 111, 111, 114]⟩, 0, ⟨#[115, 117, 109]⟩⟩, ⟨⟨#[110, 101, 116]⟩, 450, ⟨#[114, 101, 115, 116]⟩⟩]
def bl1 : List Int := [400441750, 659531598, 839774760, 130167609, 316657696, 492852368]
def bl2 : List Int := [400441751, 659531598, 839774760, 130167609, 316657696, 492852368]
theorem bl1_eq : blindL annB 290 seedX 6 = bl1 := by decide +kernel
theorem root_ne : (rootV (leafK R1 bl2 6) == rootV (leafK R1 bl1 6)) = false := by
  rw [leafF_eq, leafF_eq]
  decide +kernel
end Go.Proofs.YtfjkmhbipkoefaaDoor
namespace Go.Proofs.YtfjkmhbipkoefaaDoor
open Go.RowKit Go.Shelf
set_option linter.unusedVariables false
def pickF (c n : Int) : Int := (if c < 0 then -(c + 1) else c) % n
theorem pickF_lt (c n : Int) (hn : 0 < n) : 0 ≤ pickF c n ∧ pickF c n < n := ⟨Int.emod_nonneg _ (by omega), Int.emod_lt_of_pos _ hn⟩
theorem pick_any (c n : Int) (w : World) (hb : I64 c) (h1 : 1 ≤ n) (h2 : n ≤ 9223372036854775807) : Calls Tryd.prog 18 #[.int .i64 c, .int .i64 n] w fun e w' => e = .returned (.int .i64 (pickF c n)) ∧ w = w' := by
  unfold I64 at hb
  have hne : (n == 0) = false := by rw [beq_eq_false_iff_ne]; omega
  by_cases h : c < 0
  · have hp : pickF c n = (-(c + 1)) % n := by unfold pickF; rw [if_pos h]
    rw [hp]
    go_enter Tryd.func18, Tryd.ntmps18
    go_wp2
    go_ret
    refine ⟨?_, rfl⟩
    have e : -(c + 1).tmod n = -(c + 1) % n := by rw [← Int.neg_tmod, Int.tmod_eq_emod_of_nonneg (by omega)]
    rw [e]
    rfl
  · have hp : pickF c n = c % n := by unfold pickF; rw [if_neg h]
    rw [hp]
    go_enter Tryd.func18, Tryd.ntmps18
    go_wp2
    go_ret
    exact ⟨rfl, rfl⟩
theorem pick_at (c n v : Int) (hv : Hid (pickF c n = v)) (w : World) (hb : I64 c) (h1 : 1 ≤ n) (h2 : n ≤ 9223372036854775807) : Calls Tryd.prog 18 #[.int .i64 c, .int .i64 n] w fun e w' => e = .returned (.int .i64 v) ∧ w = w' := by
  rw [← hv.out]; exact pick_any c n w hb h1 h2
/-- Four numbers make a line. -/
structure Quad where
  a : Int
  b : Int
  c : Int
  d : Int
def QuadOk (q : Quad) : Prop := I64 q.a ∧ I64 q.b ∧ I64 q.c ∧ I64 q.d
def quadV (q : Quad) : List Value := [.int .i64 q.a, .int .i64 q.b, .int .i64 q.c, .int .i64 q.d]
def factsF (q : Quad) (k : Nat) : List Int := (List.range k).map fun (j : Nat) => 3 * (j : Int) + pickF q.a 3
def restsF (q : Quad) : List Int := if q.c.tmod 3 = 0 then [1 - pickF q.c 2] else []
/-- A line holds what four numbers determine. -/
structure LineIs (q : Quad) (x : LineM) : Prop where
  day : x.day = pickF q.a 36525
  line : x.line = pickF q.b 4
  art : x.art = pickF q.c 2
  amt : x.amt = pickF q.d 2000001 - 1000000
  facts : x.facts = factsF q (pickF q.c 4).toNat
  rests : x.rests = restsF q
theorem sl_keep {W W' : World} {size n : Nat} {A : Option Addr} {xs : List Value} (h : Sl W W.heap.size size A n xs) (hs : W.heap.size ≤ W'.heap.size) (hk : ∀ b, b < W.heap.size → (∃ off, A = some ⟨b, off, none⟩) → W'.heap[b]? = W.heap[b]?) : Sl W' W'.heap.size size A n xs := by
  refine ⟨h.1, fun h0 => ?_⟩
  obtain ⟨b, off, e, hb, hc⟩ := h.2 h0
  exact ⟨b, off, e, Nat.lt_of_lt_of_le hb hs, fun k u hu => (World.cell?_of_block (hk b hb ⟨off, e⟩)).trans (hc k u hu)⟩
theorem own_neT {W : World} {base : Nat} {e T : TypeId} {size n : Nat} {v : Value} {xs : List Value} {b : Nat} {cs : Array Value} {fr : Nat × Nat} (h : W.ownsRow base e size v n xs) (hb : W.heap[b]? = some (.cells cs T fr)) (hT : T ≠ e) : v.ownBlock ≠ some b := by
  intro hv
  rcases h.2 with ⟨h0, _⟩ | ⟨g, cap, cur, h0, _, h2, _⟩
  · rw [h0] at hv; cases hv
  · rw [h0] at hv
    injection hv with hv
    have hv : g = b := hv
    subst hv
    rw [hb] at h2
    injection h2 with h2
    injection h2 with _ h2 _
    exact hT h2
/-- A slice's block is one of integers. -/
def IntB (W : World) (A : Option Addr) : Prop := ∀ a, A = some a → ∃ cs fr, W.heap[a.block]? = some (.cells cs 3 fr)
structure LineT (W : World) (x : LineM) : Prop where
  ok : LineOk W x
  f : IntB W x.FA
  r : IntB W x.RA
theorem lineT_keep {W W' : World} {x : LineM} (h : LineT W x) (hs : W.heap.size ≤ W'.heap.size) (hk : ∀ (b : Nat) (cs : Array Value) (fr : Nat × Nat), W.heap[b]? = some (Obj.cells cs 3 fr) → W'.heap[b]? = W.heap[b]?) : LineT W' x := by
  have g {A : Option Addr} (hA : IntB W A) : ∀ b, b < W.heap.size → (∃ off, A = some ⟨b, off, none⟩) → W'.heap[b]? = W.heap[b]? := by
    rintro b hb ⟨off, e⟩
    obtain ⟨cs, fr, hc⟩ := hA _ e
    exact hk b cs fr hc
  have g2 {A : Option Addr} (hA : IntB W A) : IntB W' A := fun a ha => by
    obtain ⟨cs, fr, hc⟩ := hA a ha
    exact ⟨cs, fr, (hk _ cs fr hc).trans hc⟩
  exact ⟨⟨sl_keep h.ok.sf hs (g h.f), sl_keep h.ok.sr hs (g h.r), h.ok.lf, h.ok.lr, h.ok.bf, h.ok.br, h.ok.ba⟩, g2 h.f, g2 h.r⟩
theorem LineT.go {W W' : World} {x : LineM} (h : LineT W x) (hb : Below W.heap.size W W') : LineT W' x :=
  lineT_keep h hb.size fun b cs fr hc => hb.block b (Array.getElem?_eq_some_iff.1 hc).1
/-- The sums of the first k lines. -/
def grossF (ls : List Quad) : Int := (ls.map fun q => if pickF q.b 4 = 0 then pickF q.d 2000001 - 1000000 else 0).sum
def deductF (ls : List Quad) : Int := (ls.map fun q => if pickF q.b 4 = 1 then pickF q.d 2000001 - 1000000 else 0).sum
theorem sum_snoc (f : Quad → Int) (ls : List Quad) (q : Quad) : ((ls ++ [q]).map f).sum = (ls.map f).sum + f q := by simp
theorem sum_bound (f : Quad → Int) (hf : ∀ q, -1000000 ≤ f q ∧ f q ≤ 1000000) : ∀ ls : List Quad, -(1000000 * (ls.length : Int)) ≤ (ls.map f).sum ∧ (ls.map f).sum ≤ 1000000 * (ls.length : Int)
  | [] => by simp
  | q :: ls => by
    have h1 := sum_bound f hf ls
    have h2 := hf q
    simp only [List.map_cons, List.sum_cons, List.length_cons]
    omega
theorem gross_bound (ls : List Quad) : -(1000000 * (ls.length : Int)) ≤ grossF ls ∧ grossF ls ≤ 1000000 * (ls.length : Int) :=
  sum_bound _ (fun q => by have := pickF_lt q.d 2000001 (by omega); split <;> omega) ls
theorem deduct_bound (ls : List Quad) : -(1000000 * (ls.length : Int)) ≤ deductF ls ∧ deductF ls ≤ 1000000 * (ls.length : Int) :=
  sum_bound _ (fun q => by have := pickF_lt q.d 2000001 (by omega); split <;> omega) ls
def takenF (os : List Int) : List (Int × Int) := (List.range os.length).map fun (j : Nat) => ((j : Int) + 1, pickF (os.getD j 0) 1000)
def takenSum (os : List Int) : Int := (os.map fun x => pickF x 1000).sum
/-- A result is what numbers determine. -/
structure ResIs (month : Int) (ls : List Quad) (os : List Int) (s : SlipM) : Prop where
  person : s.person = annB
  month : s.month = pickF month 1200
  len : s.lines.length = (ls.take 20).length
  lines : ∀ (j : Nat) (x : LineM) (q : Quad), s.lines[j]? = some x → (ls.take 20)[j]? = some q → LineIs q x
  gross : s.gross = grossF (ls.take 20)
  deduct : s.deduct = deductF (ls.take 20)
  tax : s.tax = s.gross.tdiv 5
  floor : s.floor = 0
  taken : s.taken = takenF (os.take 5)
  net : s.net = s.gross - s.tax - s.deduct - takenSum (os.take 5)
/-- append(v, src...) run, the row's own base apart from the world that is compared. -/
theorem run_app2 {P : Program} {W w0 : World} (base : Nat) (hb0 : w0.heap.size ≤ base) (hbW : base ≤ W.heap.size) (t ty e : TypeId) (i : TypeInfo) (z : Value) (size bytes : Nat) (ht : P.underlying t = some (.slice e)) (hi : P.info? e = some i) (hz : i.zero = some z)
    (hsize : i.size = size) (hby : i.bytes = bytes) (hzs : z.cells.size = size) (hsz : 0 < size) (v : Value) (n : Nat) (xs : List Value) (hown : W.ownsRow base e size v n xs) (hB : Below w0.heap.size w0 W)
    (sv : Value) (m : Nat) (cs : List Value) (hsrc : Src W size sv m cs) (h1 : ∀ u ∈ cs, u.oneCell' = true) (h63 : n + m ≤ maxLen) (hbytes : (n + m) * bytes ≤ 140737488355328) :
    ∃ v' w', (Builtin.append_ #[t, t] ty #[v, sv]).run P W = .ok v' w' ∧ w'.ownsRow base e size v' (n + m) (xs ++ cs) ∧ Below w0.heap.size w0 w' ∧ Kept W v w' := by
  rcases hsrc with ⟨rfl, rfl, rfl⟩ | ⟨ad, c, rfl, hl, hc⟩
  · have hrun := run_append_owned_none (P := P) (w := W) base t ty e i size ht hi v n xs hown
    exact ⟨v, W, hrun, by simpa using hown, hB, Nat.le_refl _, fun _ _ _ => rfl⟩
  · obtain ⟨v', w', hr, h2, h3, h4⟩ := run_append_own (P := P) W base t ty e i z size bytes ht hi hz hsize hby hzs hsz v n xs hown ad m c cs hl hc h1 h63 hbytes hbW
    exact ⟨v', w', hr, h2, hB.grown h3 hB.size (fun k hk => Nat.le_trans hb0 (hown.lt k hk).1), h3.size, fun b hb hne => h3.block b hb (fun e => hne e.symm)⟩
theorem step_src2 {P : Program} {W w0 : World} {ops : Array Oper} {o : Oper} {a : Act} {K : Act → World → Prop} {Q : Exit → Act → World → Prop} {E : Prop} (base : Nat) (hb0 : w0.heap.size ≤ base) (hbW : base ≤ W.heap.size) (hgd : o.guard = none) (s x : Operand) (t : TypeId)
    (ho : o.op = .call { callee := .builtin .append, args := #[s, x], argTypes := #[t, t] }) (e : TypeId) (i : TypeInfo) (z : Value) (size bytes : Nat) (ht : P.underlying t = some (.slice e)) (hi : P.info? e = some i) (hz : i.zero = some z)
    (hsize : i.size = size) (hby : i.bytes = bytes) (hzs : z.cells.size = size) (hsz : 0 < size) (v : Value) (n : Nat) (xs : List Value) (hs : a.eval s = v) (hown : W.ownsRow base e size v n xs) (hB : Below w0.heap.size w0 W)
    (sv : Value) (m : Nat) (cs : List Value) (hx : a.eval x = sv) (hsrc : Src W size sv m cs) (h1 : ∀ u ∈ cs, u.oneCell' = true) (h63 : n + m ≤ maxLen) (hbytes : (n + m) * bytes ≤ 140737488355328)
    (h : ∀ v' w', w'.ownsRow base e size v' (n + m) (xs ++ cs) → Below w0.heap.size w0 w' → Kept W v w' → K (a.put o.dst v') w') :
    if Region.wanted o (yielded ops a.tmps) = true then Oper.wp P o a W K Q else E := by
  obtain ⟨v', w', hr, h2, h3, h4⟩ := run_app2 base hb0 hbW (ty := o.type) t e i z size bytes ht hi hz hsize hby hzs hsz v n xs hown hB sv m cs hsrc h1 h63 hbytes
  rw [if_pos (by simp [Region.wanted, hgd])]
  unfold Oper.wp
  simp [execOp, ho, resolve, invoke, builtin, hs, hx, hr, Result.andThen]
  exact h v' w' h2 h3 h4
theorem app_src2 {P : Program} {W w0 : World} {ops : Array Oper} {rest : List Oper} {o : Oper} {a : Act} {Q : Exit → Act → World → Prop} (base : Nat) (hb0 : w0.heap.size ≤ base) (hbW : base ≤ W.heap.size) (hgd : o.guard = none) (s x : Operand) (t : TypeId)
    (ho : o.op = .call { callee := .builtin .append, args := #[s, x], argTypes := #[t, t] }) (e : TypeId) (i : TypeInfo) (z : Value) (size bytes : Nat) (ht : P.underlying t = some (.slice e)) (hi : P.info? e = some i) (hz : i.zero = some z)
    (hsize : i.size = size) (hby : i.bytes = bytes) (hzs : z.cells.size = size) (hsz : 0 < size) (v : Value) (n : Nat) (xs : List Value) (hs : a.eval s = v) (hown : W.ownsRow base e size v n xs) (hB : Below w0.heap.size w0 W)
    (sv : Value) (m : Nat) (cs : List Value) (hx : a.eval x = sv) (hsrc : Src W size sv m cs) (h1 : ∀ u ∈ cs, u.oneCell' = true) (h63 : n + m ≤ maxLen) (hbytes : (n + m) * bytes ≤ 140737488355328)
    (h : ∀ v' w', w'.ownsRow base e size v' (n + m) (xs ++ cs) → Below w0.heap.size w0 w' → Kept W v w' → wpList P ops Q rest (a.put o.dst v') w') : wpList P ops Q (o :: rest) a W := by
  obtain ⟨v', w', hr, h2, h3, h4⟩ := run_app2 base hb0 hbW (ty := o.type) t e i z size bytes ht hi hz hsize hby hzs hsz v n xs hown hB sv m cs hsrc h1 h63 hbytes
  refine wpList_plain hgd fun K hK => ?_
  unfold Oper.wp
  simp [execOp, ho, resolve, invoke, builtin, hs, hx, hr, Result.andThen]
  exact hK _ _ (h v' w' h2 h3 h4)
theorem info_line : (Tryd.prog.info? 62).map (fun i => (i.zero, i.size, i.bytes)) = some (some (.agg #[.int .i64 0, .int .i64 0, .int .i64 0, .int .i64 0, .slice none 0 0, .slice none 0 0]), 6, 80) := by kernel_rfl
theorem info_taken : (Tryd.prog.info? 78).map (fun i => (i.zero, i.size, i.bytes)) = some (some (.agg #[.int .i64 0, .int .i64 0]), 2, 16) := by kernel_rfl
theorem facts_snoc (q : Quad) (k : Nat) : factsF q (k + 1) = factsF q k ++ [3 * (k : Int) + pickF q.a 3] := by simp [factsF, List.range_succ]
end Go.Proofs.YtfjkmhbipkoefaaDoor
