/- Appending all elements of any slice (nil or not), as a step of the walk and of a region that draws its order. -/
import Derived.Test.YtgkilaafeconlaaDoorApp
import Derived.Laws.AppendOwnNone
namespace Go.Proofs.YtgkilaafeconlaaDoor
open Go.RowKit
/-- A slice value of m elements that reads as the cells cs: nil, or at some address. -/
def Src (W : World) (size : Nat) (x : Value) (m : Nat) (cs : List Value) : Prop :=
  (x = .slice none 0 0 ∧ m = 0 ∧ cs = []) ∨ ∃ ad c, x = .slice (some ad) m c ∧ cs.length = m * size ∧ ∀ j u, cs[j]? = some u → W.cell? (ad.add j) = some u
theorem Src.go {W W' : World} {size m : Nat} {x : Value} {cs : List Value} (h : Src W size x m cs) (k : Below W.heap.size W W') : Src W' size x m cs := by
  rcases h with h | ⟨ad, c, hx, hl, hc⟩
  · exact .inl h
  · refine .inr ⟨ad, c, hx, hl, fun j u hu => ?_⟩
    have h1 := hc j u hu
    obtain ⟨b, off, e, hb⟩ := addr_plain h1
    rw [k.cell (by rw [e]; exact hb)]
    exact h1
theorem Src.al {W : World} {size m : Nat} {x : Value} {cs : List Value} (h : Src W size x m cs) (o : Obj) : Src (W.alloc o) size x m cs := h.go (bal (Below.refl _ _) o)
theorem Src.drew {W : World} {size m : Nat} {x : Value} {cs : List Value} (h : Src W size x m cs) : Src W.drew size x m cs := h
theorem own_src {W : World} {base : Nat} {e : TypeId} {size n : Nat} {v : Value} {xs : List Value} (h : W.ownsRow base e size v n xs) : Src W size v n xs := by
  rcases h.2 with ⟨h1, h0⟩ | ⟨g, cap, cur, h1, _⟩
  · exact .inl ⟨h1, h0, by have := h.1; rw [h0] at this; exact List.length_eq_zero_iff.1 (by omega)⟩
  · subst h1
    exact .inr ⟨_, _, rfl, h.1, h.cells rfl⟩
theorem block_src (W : World) (cs : List Value) (te : TypeId) (fr : Nat × Nat) (m c size : Nat) (hl : cs.length = m * size) : Src (W.alloc (.cells cs.toArray te fr)) size (.slice (some ⟨W.heap.size, 0, none⟩) m c) m cs :=
  .inr ⟨_, _, rfl, hl, fun j u hu => World.news_of_block (cs := cs.toArray) (t := te) (fr := fr) (World.alloc_heap_new W _) j u (by simpa using hu)⟩
theorem Src.kept {W W' : World} {size m : Nat} {ad : Addr} {c : Nat} {cs : List Value} {v : Value} (h : Src W size (.slice (some ad) m c) m cs) (k : Kept W v W') (hne : v.ownBlock ≠ some ad.block) : Src W' size (.slice (some ad) m c) m cs := by
  rcases h with ⟨h, _⟩ | ⟨ad', c', hx, hl, hc⟩
  · cases h
  · injection hx with e1 e2 e3
    injection e1 with e1
    subst e1 e3
    refine .inr ⟨ad, c, rfl, hl, fun j u hu => ?_⟩
    have h1 := hc j u hu
    obtain ⟨b, off, e, hb⟩ := addr_plain h1
    have hbl : (ad.add j).block = ad.block := by unfold Addr.add; split <;> rfl
    rw [World.cell?_of_block (k.2 _ (by rw [e]; exact hb) (by rw [hbl]; exact hne))]
    exact h1
theorem own_empty (W : World) (e te : TypeId) (size : Nat) (hte : te = e) : (W.alloc (.cells #[] te)).ownsRow W.heap.size e size (.slice (some ⟨W.heap.size, 0, none⟩) 0 0) 0 [] := by
  subst hte
  exact ⟨by simp, .inr ⟨W.heap.size, 0, #[], rfl, Nat.le_refl _, World.alloc_heap_new W _, Nat.le_refl _, Nat.zero_le _, by simp, by simp⟩⟩
/-- append(v, src...) run. -/
theorem run_app {P : Program} {W w0 : World} (t ty e : TypeId) (i : TypeInfo) (z : Value) (size bytes : Nat) (ht : P.underlying t = some (.slice e)) (hi : P.info? e = some i) (hz : i.zero = some z)
    (hsize : i.size = size) (hby : i.bytes = bytes) (hzs : z.cells.size = size) (hsz : 0 < size) (v : Value) (n : Nat) (xs : List Value) (hown : W.ownsRow w0.heap.size e size v n xs) (hB : Below w0.heap.size w0 W)
    (sv : Value) (m : Nat) (cs : List Value) (hsrc : Src W size sv m cs) (h1 : ∀ u ∈ cs, u.oneCell' = true) (h63 : n + m ≤ maxLen) (hbytes : (n + m) * bytes ≤ 140737488355328) :
    ∃ v' w', (Builtin.append_ #[t, t] ty #[v, sv]).run P W = .ok v' w' ∧ w'.ownsRow w0.heap.size e size v' (n + m) (xs ++ cs) ∧ Below w0.heap.size w0 w' ∧ Kept W v w' := by
  rcases hsrc with ⟨rfl, rfl, rfl⟩ | ⟨ad, c, rfl, hl, hc⟩
  · have hrun := run_append_owned_none (P := P) (w := W) w0.heap.size t ty e i size ht hi v n xs hown
    exact ⟨v, W, hrun, by simpa using hown, hB, Nat.le_refl _, fun _ _ _ => rfl⟩
  · obtain ⟨v', w', hr, h2, h3, h4⟩ := run_append_own (P := P) W w0.heap.size t ty e i z size bytes ht hi hz hsize hby hzs hsz v n xs hown ad m c cs hl hc h1 h63 hbytes hB.size
    exact ⟨v', w', hr, h2, hB.grown h3 hB.size (fun k hk => (hown.lt k hk).1), h3.size, fun b hb hne => h3.block b hb (fun e => hne e.symm)⟩
theorem app_src {P : Program} {W w0 : World} {ops : Array Oper} {rest : List Oper} {o : Oper} {a : Act} {Q : Exit → Act → World → Prop} (hgd : o.guard = none) (s x : Operand) (t : TypeId)
    (ho : o.op = .call { callee := .builtin .append, args := #[s, x], argTypes := #[t, t] }) (e : TypeId) (i : TypeInfo) (z : Value) (size bytes : Nat) (ht : P.underlying t = some (.slice e)) (hi : P.info? e = some i) (hz : i.zero = some z)
    (hsize : i.size = size) (hby : i.bytes = bytes) (hzs : z.cells.size = size) (hsz : 0 < size) (v : Value) (n : Nat) (xs : List Value) (hs : a.eval s = v) (hown : W.ownsRow w0.heap.size e size v n xs) (hB : Below w0.heap.size w0 W)
    (sv : Value) (m : Nat) (cs : List Value) (hx : a.eval x = sv) (hsrc : Src W size sv m cs) (h1 : ∀ u ∈ cs, u.oneCell' = true) (h63 : n + m ≤ maxLen) (hbytes : (n + m) * bytes ≤ 140737488355328)
    (h : ∀ v' w', w'.ownsRow w0.heap.size e size v' (n + m) (xs ++ cs) → Below w0.heap.size w0 w' → Kept W v w' → wpList P ops Q rest (a.put o.dst v') w') : wpList P ops Q (o :: rest) a W := by
  obtain ⟨v', w', hr, h2, h3, h4⟩ := run_app (ty := o.type) t e i z size bytes ht hi hz hsize hby hzs hsz v n xs hown hB sv m cs hsrc h1 h63 hbytes
  refine wpList_plain hgd fun K hK => ?_
  unfold Oper.wp
  simp [execOp, ho, resolve, invoke, builtin, hs, hx, hr, Result.andThen]
  exact hK _ _ (h v' w' h2 h3 h4)
theorem step_src {P : Program} {W w0 : World} {ops : Array Oper} {o : Oper} {a : Act} {K : Act → World → Prop} {Q : Exit → Act → World → Prop} {E : Prop} (hgd : o.guard = none) (s x : Operand) (t : TypeId)
    (ho : o.op = .call { callee := .builtin .append, args := #[s, x], argTypes := #[t, t] }) (e : TypeId) (i : TypeInfo) (z : Value) (size bytes : Nat) (ht : P.underlying t = some (.slice e)) (hi : P.info? e = some i) (hz : i.zero = some z)
    (hsize : i.size = size) (hby : i.bytes = bytes) (hzs : z.cells.size = size) (hsz : 0 < size) (v : Value) (n : Nat) (xs : List Value) (hs : a.eval s = v) (hown : W.ownsRow w0.heap.size e size v n xs) (hB : Below w0.heap.size w0 W)
    (sv : Value) (m : Nat) (cs : List Value) (hx : a.eval x = sv) (hsrc : Src W size sv m cs) (h1 : ∀ u ∈ cs, u.oneCell' = true) (h63 : n + m ≤ maxLen) (hbytes : (n + m) * bytes ≤ 140737488355328)
    (h : ∀ v' w', w'.ownsRow w0.heap.size e size v' (n + m) (xs ++ cs) → Below w0.heap.size w0 w' → Kept W v w' → K (a.put o.dst v') w') :
    if Region.wanted o (yielded ops a.tmps) = true then Oper.wp P o a W K Q else E := by
  obtain ⟨v', w', hr, h2, h3, h4⟩ := run_app (ty := o.type) t e i z size bytes ht hi hz hsize hby hzs hsz v n xs hown hB sv m cs hsrc h1 h63 hbytes
  rw [if_pos (by simp [Region.wanted, hgd])]
  unfold Oper.wp
  simp [execOp, ho, resolve, invoke, builtin, hs, hx, hr, Result.andThen]
  exact h v' w' h2 h3 h4
end Go.Proofs.YtgkilaafeconlaaDoor
