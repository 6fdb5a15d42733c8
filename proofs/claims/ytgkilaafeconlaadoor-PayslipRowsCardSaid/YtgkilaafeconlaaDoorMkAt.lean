/- Contracts of package merkle in a form with plain results as open arguments. -/
import Derived.Test.YtgkilaafeconlaaDoorMkW9
namespace Go.Proofs.YtgkilaafeconlaaDoor
open Go.RowKit Go.Shelf
set_option linter.unusedVariables false
theorem own_slice {W : World} {base : Nat} {e : TypeId} {size n : Nat} {v : Value} {xs : List Value} (h : W.ownsRow base e size v n xs) : ∃ A cap, v = .slice A n cap ∧ Sl W W.heap.size size A n xs := by
  rcases h.2 with ⟨h1, h0⟩ | ⟨g, cap, cur, h1, _⟩
  · subst h0
    exact ⟨none, 0, h1, h.1, fun h => absurd h (Nat.lt_irrefl 0)⟩
  · subst h1
    refine ⟨_, cap, rfl, h.1, fun _ => ⟨g, 0, rfl, (h.lt g rfl).2, ?_⟩⟩
    intro j u hu
    obtain ⟨hj, _⟩ := List.getElem?_eq_some_iff.1 hu
    rw [Nat.zero_add]
    exact (h.cellAt j (by have := h.1; omega)).trans hu
theorem root_at (A : Option Addr) (c n : Nat) (ss : List ByteArray) (d : UInt64) (e : Int) (w : World) (hn : ss.length = n) (hd : rootV ss = d) (he : checkE n = e) (hA : Sl w w.heap.size 1 A n (strV ss)) (hs : ∀ s ∈ ss, s.size ≤ 140737488355328) (hl : n ≤ 1100) :
    Calls Tryd.prog 39 #[.slice A n c] w fun r w' => r = .returned (.tuple #[.int .u64 d.toNat, .int .i64 e]) ∧ Below w.heap.size w w' := by
  subst hn hd he
  exact root_any A c ss w hA hs (by unfold maxLen; omega)
theorem sl_cells {W : World} {b : Nat} {cs : Array Value} {t : TypeId} {size n : Nat} {xs : List Value} (hb : W.heap[b]? = some (.cells cs t (0, 0))) (hx : cs.toList = xs) (hn : xs.length = n * size) : Sl W W.heap.size size (some ⟨b, 0, none⟩) n xs := by
  refine ⟨hn, fun _ => ⟨b, 0, rfl, (Array.getElem?_eq_some_iff.1 hb).1, ?_⟩⟩
  intro j u hu
  rw [Nat.zero_add]
  have h1 := World.news_of_block (cs := cs) (t := t) (fr := (0, 0)) hb j u (by rw [hx]; exact hu)
  rwa [Addr.add_lit, Nat.zero_add] at h1
theorem pair_at (a b d : UInt64) (w : World) (hd : Dig.pair a b = d) : Calls Tryd.prog 79 #[.int .u64 a.toNat, .int .u64 b.toNat] w fun e w' => e = .returned (.int .u64 d.toNat) ∧ Below w.heap.size w w' := by
  subst hd; exact pair_any a b w
end Go.Proofs.YtgkilaafeconlaaDoor
