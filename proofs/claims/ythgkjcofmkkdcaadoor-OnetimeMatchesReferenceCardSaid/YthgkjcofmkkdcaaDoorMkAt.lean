/- Contracts of package merkle in a form with plain results as open arguments. -/
import Derived.Test.YthgkjcofmkkdcaaDoorMkW9
namespace Go.Proofs.YthgkjcofmkkdcaaDoor
open Go.RowKit Go.Shelf
set_option linter.unusedVariables false
theorem own_slice {W : World} {base : Nat} {e : TypeId} {size n : Nat} {v : Value} {xs : List Value} (h : W.ownsRow base e size v n xs) : ∃ A cap, v = .slice A n cap ∧ Sl W W.heap.size size A n xs := by
  rcases h.2 with ⟨h1, h0⟩ | ⟨g, cap, cur, h1, _⟩
  · subst h0
    exact ⟨none, 0, h1, h.1, fun h => absurd h (Nat.lt_irrefl 0)⟩
  · subst h1
    refine ⟨_, cap, rfl, h.1, fun _ => ⟨g, 0, rfl, (h.lt g rfl).2, ?_⟩⟩
    intro j u hu
    obtain ⟨hj, _⟩ := List.getElem?_eq_some_iff.1 hu
    rw [Nat.zero_add]
    exact (h.cellAt j (by have := h.1; omega)).trans hu
theorem root_at (A : Option Addr) (c n : Nat) (ss : List ByteArray) (d : UInt64) (e : Int) (w : World) (hn : ss.length = n) (hd : rootV ss = d) (he : checkE n = e) (hA : Sl w w.heap.size 1 A n (strV ss)) (hs : ∀ s ∈ ss, s.size ≤ 140737488355328) (hl : n ≤ 1100) :
    Calls Tryd.prog 35 #[.slice A n c] w fun r w' => r = .returned (.tuple #[.int .u64 d.toNat, .int .i64 e]) ∧ Below w.heap.size w w' := by
  subst hn hd he
  exact root_any A c ss w hA hs (by unfold maxLen; omega)
theorem path_at (A : Option Addr) (c n : Nat) (ss : List ByteArray) (i : Int) (p : Forks) (e : Int) (w : World) (hn : ss.length = n) (hp : pathL ss i = p) (he : pathE n i = e) (hA : Sl w w.heap.size 1 A n (strV ss)) (hs : ∀ s ∈ ss, s.size ≤ 140737488355328) (hl : n ≤ 1100) :
    Calls Tryd.prog 43 #[.slice A n c, .int .i64 i] w fun r w' => ∃ B cap, r = .returned (.tuple #[.slice B p.length cap, .int .i64 e]) ∧ Sl w' w'.heap.size 2 B p.length (forkV p) ∧ Below w.heap.size w w' := by
  subst hn hp he
  refine (path_any A c ss i w hA hs (by unfold maxLen; omega)).mono ?_
  rintro r w' ⟨v, rfl, h, hB⟩
  obtain ⟨B, cap, rfl, hS⟩ := own_slice h
  exact ⟨B, cap, rfl, hS, hB⟩
theorem verify_at (A : Option Addr) (c m : Nat) (root : UInt64) (n i : Int) (s : ByteArray) (p : Forks) (r : Bool) (w : World) (hm : p.length = m) (hr : verifyB root n i s p = r) (hA : Sl w w.heap.size 2 A m (forkV p)) (hs : s.size ≤ 140737488355328) :
    Calls Tryd.prog 49 #[.int .u64 root.toNat, .int .i64 n, .int .i64 i, .string s, .slice A m c] w fun e w' => e = .returned (.bool r) ∧ Below w.heap.size w w' := by
  subst hm hr
  exact verify_any A c root n i s p w hA hs
theorem sl_cells {W : World} {b : Nat} {cs : Array Value} {t : TypeId} {size n : Nat} {xs : List Value} (hb : W.heap[b]? = some (.cells cs t (0, 0))) (hx : cs.toList = xs) (hn : xs.length = n * size) : Sl W W.heap.size size (some ⟨b, 0, none⟩) n xs := by
  refine ⟨hn, fun _ => ⟨b, 0, rfl, (Array.getElem?_eq_some_iff.1 hb).1, ?_⟩⟩
  intro j u hu
  rw [Nat.zero_add]
  have h1 := World.news_of_block (cs := cs) (t := t) (fr := (0, 0)) hb j u (by rw [hx]; exact hu)
  rwa [Addr.add_lit, Nat.zero_add] at h1
theorem pair_at (a b d : UInt64) (w : World) (hd : Dig.pair a b = d) : Calls Tryd.prog 79 #[.int .u64 a.toNat, .int .u64 b.toNat] w fun e w' => e = .returned (.int .u64 d.toNat) ∧ Below w.heap.size w w' := by
  subst hd; exact pair_any a b w
theorem coll_at (A A' : Option Addr) (c c' m m' : Nat) (n i : Int) (a : ByteArray) (p : Forks) (b : ByteArray) (q : Forks) (o : Option (ByteArray × ByteArray)) (w : World) (hm : p.length = m) (hm' : q.length = m') (ho : collO n i a p b q = o) (hA : Sl w w.heap.size 2 A m (forkV p)) (hA' : Sl w w.heap.size 2 A' m' (forkV q)) (hs : a.size ≤ 140737488355328) (hs' : b.size ≤ 140737488355328) :
    Calls Tryd.prog 33 #[.int .i64 n, .int .i64 i, .string a, .slice A m c, .string b, .slice A' m' c'] w fun e w' => e = .returned (collT o) ∧ Below w.heap.size w w' := by
  subst hm hm' ho
  exact collision_any A A' c c' n i a p b q w hA hA' hs hs'
end Go.Proofs.YthgkjcofmkkdcaaDoor
