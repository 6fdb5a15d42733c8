/- Parts for OnetimeForms: what stays while signatures are collected. -/
import Derived.Test.YthgkjcofmkkdcaaDoorOnLawA
import Derived.Test.YthgkjcofmkkdcaaDoorOnLawB
import Derived.Deep.RegionHeld
namespace Go.Proofs.YthgkjcofmkkdcaaDoor
open Go.RowKit Go.Shelf
set_option linter.unusedVariables false
set_option linter.unusedSimpArgs false
set_option maxRecDepth 100000
/-- A block that is older than w0, or holds neither signatures nor a slice of them. -/
def Safe (w0 W : World) (b : Nat) : Prop := b < w0.heap.size ∨ ∃ (cs : Array Value) (t : TypeId) (fr : Nat × Nat), W.heap[b]? = some (.cells cs t fr) ∧ t ≠ 27 ∧ t ≠ 29
/-- Every safe block stays as it is. -/
def KeepT (w0 W W' : World) : Prop := W.heap.size ≤ W'.heap.size ∧ ∀ b, b < W.heap.size → Safe w0 W b → W'.heap[b]? = W.heap[b]?
theorem Safe.go {w0 W W' : World} {b : Nat} (h : Safe w0 W b) (e : W'.heap[b]? = W.heap[b]?) : Safe w0 W' b := by
  rcases h with h | ⟨cs, t, fr, hb, h1⟩
  · exact .inl h
  · exact .inr ⟨cs, t, fr, e.trans hb, h1⟩
theorem KeepT.trans {w0 a b c : World} (h : KeepT w0 a b) (k : KeepT w0 b c) : KeepT w0 a c :=
  ⟨Nat.le_trans h.1 k.1, fun n hn hs => (k.2 n (Nat.lt_of_lt_of_le hn h.1) (hs.go (h.2 n hn hs))).trans (h.2 n hn hs)⟩
theorem KeepT.of_below {w0 W W' : World} (h : Below W.heap.size W W') : KeepT w0 W W' := ⟨h.size, fun n hn _ => h.block n hn⟩
theorem KeepT.setCell (w0 W : World) {b j : Nat} {v : Value} {cs : Array Value} {t : TypeId} {fr : Nat × Nat} (hb : W.heap[b]? = some (.cells cs t fr)) (h0 : w0.heap.size ≤ b) (ht : t = 27 ∨ t = 29) : KeepT w0 W (W.setCell ⟨b, j, none⟩ v) := by
  refine ⟨by simp [World.setCell], fun n hn hs => Below.heap_setCell _ _ _ _ ?_⟩
  intro e
  have e : n = b := e
  subst e
  rcases hs with hs | ⟨cs', t', fr', h, h1, h2⟩
  · omega
  · rw [hb] at h
    injection h with h
    injection h with _ h _
    subst h
    rcases ht with ht | ht
    · exact h1 ht
    · exact h2 ht
theorem KeepT.kept {w0 W w' : World} {vb : Value} {n : Nat} {xs : List Value} (hown : W.ownsRow w0.heap.size 27 3 vb n xs) (k : Kept W vb w') : KeepT w0 W w' := by
  refine ⟨k.1, fun b hb hs => k.2 b hb ?_⟩
  intro e
  rcases hown.2 with ⟨rfl, _⟩ | ⟨g, cap, cur, rfl, hg, hgb, _⟩
  · cases e
  · have e : g = b := by injection e
    subst e
    rcases hs with hs | ⟨cs', t', fr', h, h1, h2⟩
    · omega
    · rw [hgb] at h
      injection h with h
      injection h with _ h _
      exact h1 h.symm
/-- A slice that reads as xs, in a safe block. -/
def SlK (w0 W : World) (size : Nat) (A : Option Addr) (n : Nat) (xs : List Value) : Prop :=
  xs.length = n * size ∧ (0 < n → ∃ b off, A = some ⟨b, off, none⟩ ∧ b < W.heap.size ∧ Safe w0 W b ∧ ∀ j u, xs[j]? = some u → W.cell? ⟨b, off + j, none⟩ = some u)
theorem SlK.sl {w0 W : World} {size n : Nat} {A : Option Addr} {xs : List Value} (h : SlK w0 W size A n xs) : Sl W W.heap.size size A n xs :=
  ⟨h.1, fun h0 => by obtain ⟨b, off, e, hb, _, hc⟩ := h.2 h0; exact ⟨b, off, e, hb, hc⟩⟩
theorem SlK.keep {w0 W W' : World} {size n : Nat} {A : Option Addr} {xs : List Value} (h : SlK w0 W size A n xs) (k : KeepT w0 W W') : SlK w0 W' size A n xs :=
  ⟨h.1, fun h0 => by
    obtain ⟨b, off, e, hb, hs, hc⟩ := h.2 h0
    have hk := k.2 b hb hs
    exact ⟨b, off, e, Nat.lt_of_lt_of_le hb k.1, hs.go hk, fun j u hu => (World.cell?_of_block hk).trans (hc j u hu)⟩⟩
theorem Sl.safe {w0 W : World} {size n : Nat} {A : Option Addr} {xs : List Value} (h : Sl w0 w0.heap.size size A n xs) (k : Below w0.heap.size w0 W) : SlK w0 W size A n xs :=
  ⟨h.1, fun h0 => by
    obtain ⟨b, off, e, hb, hc⟩ := h.2 h0
    exact ⟨b, off, e, Nat.lt_of_lt_of_le hb k.size, .inl hb, fun j u hu => (k.cell (p := ⟨b, off + j, none⟩) hb).trans (hc j u hu)⟩⟩
theorem own_safe {w0 W : World} {base : Nat} {e : TypeId} {size n cap : Nat} {A : Option Addr} {xs : List Value} (h : W.ownsRow base e size (.slice A n cap) n xs) (h1 : e ≠ 27) (h2 : e ≠ 29) : SlK w0 W size A n xs := by
  obtain ⟨A', cap', hv, hS⟩ := own_slice h
  injection hv with hv _ _
  subst hv
  refine ⟨h.1, fun h0 => ?_⟩
  rcases h.2 with ⟨hv, h0'⟩ | ⟨g, cap2, cur, hv, hg, hgb, _⟩
  · omega
  · injection hv with hv _ _
    subst hv
    obtain ⟨b, off, e', hb, hc⟩ := hS.2 h0
    injection e' with e'
    injection e' with e1 e2 _
    subst e1 e2
    exact ⟨g, 0, rfl, hb, .inr ⟨cur, e, (0, 0), hgb, h1, h2⟩, hc⟩
/-- A changed signature, never valid at the height m. -/
def BadAt (m : Nat) (w0 W : World) (q : Sg) : Prop := ∃ (c : List UInt64) (p : Forks), c.length = q.n ∧ p.length = q.m ∧ q.n ≤ maxLen ∧ SlK w0 W 1 q.A q.n (u64V c) ∧ SlK w0 W 2 q.B q.m (forkV p) ∧ ∀ r d, overB r (m : Int) d q.i c p = false
theorem BadAt.keep {m : Nat} {w0 W W' : World} {q : Sg} (h : BadAt m w0 W q) (k : KeepT w0 W W') : BadAt m w0 W' q := by
  obtain ⟨c, p, h1, h2, h3, h4, h5, h6⟩ := h
  exact ⟨c, p, h1, h2, h3, h4.keep k, h5.keep k, h6⟩
def sgC (q : Sg) : Array Value := #[.int .i64 q.i, .slice q.A q.n q.ca, .slice q.B q.m q.cb]
theorem own_ne3 {W : World} {base : Nat} {e : TypeId} {size : Nat} {v : Value} {n : Nat} {xs : List Value} {b : Nat} {cs : Array Value} {t : TypeId} {fr : Nat × Nat} (h : W.ownsRow base e size v n xs) (hb : W.heap[b]? = some (.cells cs t fr)) (ht : t ≠ e) : v.ownBlock ≠ some b := by
  intro eb
  rcases h.2 with ⟨rfl, _⟩ | ⟨g, cap, cur, rfl, hg, hgb, _⟩
  · cases eb
  · have e' : g = b := by injection eb
    subst e'
    rw [hb] at hgb
    injection hgb with hgb
    injection hgb with _ hgb _
    exact ht hgb
theorem own_setCell_other {W : World} {base b j : Nat} {e : TypeId} {size : Nat} {v u : Value} {n : Nat} {xs : List Value} (h : W.ownsRow base e size v n xs) (hb : v.ownBlock ≠ some b) : (W.setCell ⟨b, j, none⟩ u).ownsRow base e size v n xs := by
  refine ⟨h.1, ?_⟩
  rcases h.2 with h0 | ⟨g, cap, cur, hv, h1, h2, h3⟩
  · exact .inl h0
  · subst hv
    exact .inr ⟨g, cap, cur, rfl, h1, (Below.heap_setCell _ _ _ _ (fun e => hb (by rw [← show g = b from e]; rfl))).trans h2, h3⟩
end Go.Proofs.YthgkjcofmkkdcaaDoor
