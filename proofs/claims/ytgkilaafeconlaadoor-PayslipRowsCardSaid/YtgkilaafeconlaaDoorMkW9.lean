/- The walks of package merkle, ninth part: Collision. -/
import Derived.Test.YtgkilaafeconlaaDoorMkW8
import Derived.WalkMore
namespace Go.Proofs.YtgkilaafeconlaaDoor
open Go.RowKit Go.Shelf
set_option linter.unusedVariables false
attribute [local go_sem] Oper.semAt_some
abbrev Forks := List (UInt64 × Bool)
def collF : List ByteArray → List ByteArray → Option (ByteArray × ByteArray)
  | x :: xs, y :: ys => if x = y then collF xs ys else if Dig.sum x.data.toList = Dig.sum y.data.toList then some (x, y) else collF xs ys
  | _, _ => none
def collR : Option (ByteArray × ByteArray) → ByteArray × ByteArray × Bool
  | none => (⟨#[]⟩, ⟨#[]⟩, false)
  | some (x, y) => (x, y, true)
def collO (n i : Int) (a : ByteArray) (p : Forks) (b : ByteArray) (q : Forks) : Option (ByteArray × ByteArray) :=
  if properB n i p = true ∧ properB n i q = true ∧ Mk.climbD (Mk.leafD a.data.toList) p = Mk.climbD (Mk.leafD b.data.toList) q then collF (climbS a p) (climbS b q) else none
def collT (o : Option (ByteArray × ByteArray)) : Value := .tuple #[.string (collR o).1, .string (collR o).2.1, .bool (collR o).2.2]
/-- The loop of Collision between two rounds, and after its break. -/
def CollJ (w : World) (B l Bx By : Nat) (r : Loop) (A A' : Option Addr) (n c c' : Nat) (ss tt : List ByteArray) (k : Nat) (W : World) : Prop :=
  W.heap[l]? = some (Rng.readyOf r) ∧ W.heap[Bx + 2]? = some (.deferred (some [])) ∧ ZipK Bx By A A' n c c' ss tt W ∧
  W.cell? ⟨B, 0, none⟩ = some (.string ⟨#[]⟩) ∧ W.cell? ⟨B + 1, 0, none⟩ = some (.string ⟨#[]⟩) ∧ W.cell? ⟨B + 2, 0, none⟩ = some (.bool false) ∧
  W.frozen? ⟨B, 0, none⟩ = false ∧ W.frozen? ⟨B + 1, 0, none⟩ = false ∧ W.frozen? ⟨B + 2, 0, none⟩ = false ∧ collF ss tt = collF (ss.drop k) (tt.drop k) ∧ Below w.heap.size w W ∧ l < W.heap.size
def CollD (w : World) (B l Bx : Nat) (r : Loop) (id : Nat) (ss tt : List ByteArray) (W : World) : Prop :=
  W.heap[l]? = some (Rng.doneOf r (.exit id)) ∧ W.heap[Bx + 2]? = some (.deferred (some [])) ∧ ∃ x y, collF ss tt = some (x, y) ∧
  W.cell? ⟨B, 0, none⟩ = some (.string x) ∧ W.cell? ⟨B + 1, 0, none⟩ = some (.string y) ∧ W.cell? ⟨B + 2, 0, none⟩ = some (.bool true) ∧ Below w.heap.size w W ∧ l < W.heap.size
theorem bytes_inj {x y : ByteArray} (h : x.data.toList = y.data.toList) : x = y := by
  obtain ⟨x⟩ := x
  obtain ⟨y⟩ := y
  exact congrArg ByteArray.mk (Array.toList_inj.1 h)
theorem sl_own {W : World} {base g n cap : Nat} {xs : List Value} (h : W.ownsRow base 9 1 (.slice (some ⟨g, 0, none⟩) n cap) n xs) : Sl W W.heap.size 1 (some ⟨g, 0, none⟩) n xs := by
  refine ⟨h.1, fun _ => ⟨g, 0, rfl, (h.lt g rfl).2, ?_⟩⟩
  intro j u hu
  obtain ⟨hj, _⟩ := List.getElem?_eq_some_iff.1 hu
  rw [Nat.zero_add]
  exact (h.cellAt j (by have := h.1; omega)).trans hu
theorem Sl.same {W W' : World} {size g n : Nat} {xs : List Value} (h : Sl W W.heap.size size (some ⟨g, 0, none⟩) n xs) (hg : W'.heap[g]? = W.heap[g]?) (hs : W.heap.size ≤ W'.heap.size) : Sl W' W'.heap.size size (some ⟨g, 0, none⟩) n xs := by
  refine ⟨h.1, fun hn => ?_⟩
  obtain ⟨b, off, e, hB, hc⟩ := h.2 hn
  injection e with e
  injection e with e1 e2 e3
  subst e1; subst e2
  exact ⟨g, 0, rfl, by omega, fun j u hu => (World.cell?_of_block hg).trans (hc j u hu)⟩
theorem collF_drop (ss tt : List ByteArray) (k : Nat) (x y : ByteArray) (hx : ss[k]? = some x) (hy : tt[k]? = some y) :
    collF (ss.drop k) (tt.drop k) = if x = y then collF (ss.drop (k + 1)) (tt.drop (k + 1)) else if Dig.sum x.data.toList = Dig.sum y.data.toList then some (x, y) else collF (ss.drop (k + 1)) (tt.drop (k + 1)) := by
  obtain ⟨h1, e1⟩ := List.getElem?_eq_some_iff.1 hx
  obtain ⟨h2, e2⟩ := List.getElem?_eq_some_iff.1 hy
  rw [List.drop_eq_getElem_cons h1, List.drop_eq_getElem_cons h2, e1, e2]
  rfl
theorem collF_end (ss tt : List ByteArray) (k : Nat) (h : ss.length ≤ k) : collF (ss.drop k) (tt.drop k) = none := by
  rw [List.drop_of_length_le h]
  cases tt.drop k <;> rfl
theorem climbT_size (d : UInt64) (p : Forks) : ∀ t ∈ Mk.climbT d p, (bytesOf t).size ≤ maxLen := by
  induction p generalizing d with
  | nil => intro t h; cases h
  | cons a p ih =>
    intro t h
    rcases List.mem_cons.1 h with rfl | h
    · unfold Mk.upT
      split <;> exact node_size _ _
    · exact ih _ t h
theorem climbS_size (s : ByteArray) (hs : s.size ≤ 140737488355328) (p : Forks) (x : ByteArray) (h : x ∈ climbS s p) : x.size ≤ maxLen := by
  rcases List.mem_cons.1 h with rfl | h
  · exact leaf_size s hs
  · obtain ⟨t, ht, rfl⟩ := List.mem_map.1 h
    exact climbT_size _ _ t ht
end Go.Proofs.YtgkilaafeconlaaDoor
