/- Appending to a slice of the call's own, in one step: one new element (a fresh block), or all elements of another slice. -/
import Derived.Test.YtgkilaafeconlaaDoorBase
import Derived.OwnWalk
import Derived.Maps.AppendAt
import Derived.Deep.AppendLies
import Derived.RangeFuncRecord
namespace Go.Proofs.YtgkilaafeconlaaDoor
open Go.RowKit
/-- All blocks but the one that was appended to are as they were. -/
def Kept (W : World) (v : Value) (w' : World) : Prop := W.heap.size ≤ w'.heap.size ∧ ∀ b, b < W.heap.size → v.ownBlock ≠ some b → w'.heap[b]? = W.heap[b]?
/-- append(v, x): the one new element lies in the block that was made last. -/
theorem app_one {P : Program} {W w0 : World} {ops : Array Oper} {rest : List Oper} {o : Oper} {a : Act} {Q : Exit → Act → World → Prop} (hgd : o.guard = none) (s x : Operand) (t : TypeId)
    (ho : o.op = .call { callee := .builtin .append, args := #[s, x], argTypes := #[t, t] }) (e : TypeId) (i : TypeInfo) (z : Value) (size bytes : Nat) (ht : P.underlying t = some (.slice e)) (hi : P.info? e = some i) (hz : i.zero = some z)
    (hsize : i.size = size) (hby : i.bytes = bytes) (hzs : z.cells.size = size) (hsz : 0 < size) (v : Value) (n : Nat) (xs : List Value) (hs : a.eval s = v) (hown : W.ownsRow w0.heap.size e size v n xs) (hB : Below w0.heap.size w0 W)
    (cs : List Value) (te : TypeId) (fr : Nat × Nat) (hx : a.eval x = .slice (some ⟨W.heap.size, 0, none⟩) 1 1) (hl : cs.length = 1 * size) (h1 : ∀ u ∈ cs, u.oneCell' = true) (h63 : n + 1 ≤ maxLen) (hbytes : (n + 1) * bytes ≤ 140737488355328)
    (h : ∀ v' w', w'.ownsRow w0.heap.size e size v' (n + 1) (xs ++ cs) → Below w0.heap.size w0 w' → Kept W v w' → wpList P ops Q rest (a.put o.dst v') w') : wpList P ops Q (o :: rest) a (W.alloc (.cells cs.toArray te fr)) := by
  refine wpList_append_own _ hgd s x t ho w0.heap.size e i z size bytes ht hi hz hsize hby hzs hsz v n xs hs (hown.alloc _) ⟨W.heap.size, 0, none⟩ 1 1 cs hx hl ?_ h1 h63 hbytes (by have := hB.size; simp; omega) ?_
  · intro j u hu
    have := World.news_of_block (cs := cs.toArray) (t := te) (fr := fr) (World.alloc_heap_new W _) j u (by simpa using hu)
    exact this
  · intro v' w' h2 h3 _
    refine h v' w' h2 ((hB.alloc hB.size _).grown h3 (by have := hB.size; simp; omega) (fun k hk => (hown.lt k hk).1)) ?_
    refine ⟨Nat.le_trans (by simp) h3.size, ?_⟩
    intro b hb hne
    exact (h3.block b (by simp; omega) (fun e => hne e.symm)).trans (Below.heap_alloc _ _ _ hb)
/-- append(v, src...): all elements of a slice that lies elsewhere. -/
theorem app_all {P : Program} {W w0 : World} {ops : Array Oper} {rest : List Oper} {o : Oper} {a : Act} {Q : Exit → Act → World → Prop} (hgd : o.guard = none) (s x : Operand) (t : TypeId)
    (ho : o.op = .call { callee := .builtin .append, args := #[s, x], argTypes := #[t, t] }) (e : TypeId) (i : TypeInfo) (z : Value) (size bytes : Nat) (ht : P.underlying t = some (.slice e)) (hi : P.info? e = some i) (hz : i.zero = some z)
    (hsize : i.size = size) (hby : i.bytes = bytes) (hzs : z.cells.size = size) (hsz : 0 < size) (v : Value) (n : Nat) (xs : List Value) (hs : a.eval s = v) (hown : W.ownsRow w0.heap.size e size v n xs) (hB : Below w0.heap.size w0 W)
    (ad : Addr) (m c : Nat) (cs : List Value) (hx : a.eval x = .slice (some ad) m c) (hl : cs.length = m * size) (hc : ∀ j u, cs[j]? = some u → W.cell? (ad.add j) = some u) (h1 : ∀ u ∈ cs, u.oneCell' = true) (h63 : n + m ≤ maxLen) (hbytes : (n + m) * bytes ≤ 140737488355328)
    (h : ∀ v' w', w'.ownsRow w0.heap.size e size v' (n + m) (xs ++ cs) → Below w0.heap.size w0 w' → Kept W v w' → wpList P ops Q rest (a.put o.dst v') w') : wpList P ops Q (o :: rest) a W := by
  refine wpList_append_own _ hgd s x t ho w0.heap.size e i z size bytes ht hi hz hsize hby hzs hsz v n xs hs hown ad m c cs hx hl hc h1 h63 hbytes hB.size ?_
  intro v' w' h2 h3 _
  exact h v' w' h2 (hB.grown h3 hB.size (fun k hk => (hown.lt k hk).1)) ⟨h3.size, fun b hb hne => h3.block b hb (fun e => hne e.symm)⟩
end Go.Proofs.YtgkilaafeconlaaDoor
