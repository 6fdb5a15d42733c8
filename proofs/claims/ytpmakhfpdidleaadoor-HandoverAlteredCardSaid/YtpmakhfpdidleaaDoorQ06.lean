/- Arguments that are slices of strings or of forks, opened as plain lists. Appending to a slice of the call's own, in one step: one new element (a fresh block), or all elements of another slice. Appending all elements of any slice (nil or not), as a step of the walk and of a region that draws its order. The walks of package payslip, first part: isName, isIndex, join, Leaf, inRange. The walks of package handover, first part: isName, valid. Plain calendar: months as numbers 0 to 1199, their first days, the date of a day. -/
import Derived.Test.YtpmakhfpdidleaaDoorQ05
import Derived.SliceStrings
import Derived.Deep.SlicePairs
import Derived.ChangeArms
import Derived.Test.YtpmakhfpdidleaaDoorQ01
import Derived.OwnWalk
import Derived.Maps.AppendAt
import Derived.Deep.AppendLies
import Derived.RangeFuncRecord
import Derived.Laws.AppendOwnNone
import Derived.Deep.DeepFit
namespace Go.Proofs.YtpmakhfpdidleaaDoor
open Go.RowKit Go.ChangeShapes Go.WideShapes Go.Deep
set_option maxRecDepth 100000
theorem cells_string : Tryd.prog.cellsOf 9 = 1 := by kernel_rfl
theorem cells_fork : Tryd.prog.cellsOf 41 = 2 := by kernel_rfl
theorem cells_digest : Tryd.prog.cellsOf 29 = 1 := by kernel_rfl
theorem cells_bool : Tryd.prog.cellsOf 4 = 1 := by kernel_rfl
theorem sl_strs {H : Type} {enc : TypeId × Value → H} {W : World} {base : Nat} {v : Value} {d : DataW H} {p : List MemPlace} (hv : Value.okWide Tryd.prog W .any base 53 v) (h : DataW.Trod enc Tryd.prog W 0 (fun _ => true) true 53 v d p) :
    ∃ (A : Option Addr) (c : Nat) (ss : List ByteArray), v = .slice A ss.length c ∧ Sl W W.heap.size 1 A ss.length (strV ss) ∧ (ss.length ≤ c ∧ c ≤ maxLen) ∧ (∀ s ∈ ss, s.size ≤ maxLen) := by
  obtain ⟨a0, len, cap, rfl⟩ := okWide_slice Tryd.underlying53 hv
  obtain ⟨fuel, hf⟩ := h
  rcases open_strings Tryd.underlying53 Tryd.underlying9 cells_string hf with ⟨hcs, hx⟩ | ⟨a, len', cap', ss, hcs, _, hl, hm, hz, hx, hcell, hws⟩
  · simp [Value.cells] at hcs
    obtain ⟨rfl, rfl, rfl⟩ := hcs
    exact ⟨none, 0, [], rfl, Sl.nil _ 1, ⟨Nat.le_refl _, Nat.zero_le _⟩, fun s h => by cases h⟩
  · simp [Value.cells] at hcs
    obtain ⟨rfl, rfl, rfl⟩ := hcs
    simp only [if_true] at hz
    have ht : (ss.take len).length = len := by rw [List.length_take]; omega
    refine ⟨some a, cap, ss.take len, by rw [ht], ?_, ⟨by omega, by omega⟩, fun s h => hws s (List.mem_of_mem_take h)⟩
    refine sl_of_row (by simp [strV]) (fun _ => Nat.one_pos) ?_
    intro j u hu
    obtain ⟨hj, e⟩ := List.getElem?_eq_some_iff.1 hu
    have hj' : j < len := by simp [strV] at hj; omega
    rw [hcell j (by omega), ← e]
    simp [strV, List.getD, show j < ss.length by omega]
theorem sl_forks {H : Type} {enc : TypeId × Value → H} {W : World} {base : Nat} {v : Value} {d : DataW H} {p : List MemPlace} (hv : Value.okWide Tryd.prog W .any base 34 v) (h : DataW.Trod enc Tryd.prog W 0 (fun _ => true) true 34 v d p) :
    ∃ (A : Option Addr) (c : Nat) (l : Forks), v = .slice A l.length c ∧ Sl W W.heap.size 2 A l.length (forkV l) ∧ (l.length ≤ c ∧ c ≤ maxLen) := by
  obtain ⟨a0, len, cap, rfl⟩ := okWide_slice Tryd.underlying34 hv
  obtain ⟨fuel, hf⟩ := h
  rcases open_slice_pairs Tryd.underlying34 Tryd.underlying41 cells_fork rfl rfl cells_digest cells_bool hf with ⟨hcs, hx⟩ | ⟨a, len', cap', m, n, V0, V1, D0, D1, P0, P1, hcs, _, hl, hm, hmm, hx, hall⟩
  · simp [Value.cells] at hcs
    obtain ⟨rfl, rfl, rfl⟩ := hcs
    exact ⟨none, 0, [], rfl, Sl.nil _ 2, ⟨Nat.le_refl _, Nat.zero_le _⟩⟩
  · simp [Value.cells] at hcs
    obtain ⟨rfl, rfl, rfl⟩ := hcs
    simp only [if_true] at hmm
    subst hmm
    have each : ∀ i, i < m → ∃ x : UInt64 × Bool, V0 i = .int .u64 x.1.toNat ∧ V1 i = .bool x.2 := by
      intro i hi
      obtain ⟨_, _, h0, h1⟩ := hall i hi
      obtain ⟨z, hz, _, hw⟩ := DataW.trod_int Tryd.underlying29 h0
      obtain ⟨b, hb, _⟩ := DataW.trod_bool Tryd.underlying4 h1
      obtain ⟨u, rfl⟩ := u64_of_wf hw
      exact ⟨(u, b), by simpa using hz, by simpa using hb⟩
    obtain ⟨X, hX⟩ := choose_lt each
    have ht : ((List.range len).map X).length = len := by simp
    refine ⟨some a, m, (List.range len).map X, by rw [ht], ?_, ⟨by omega, by omega⟩⟩
    refine sl_of_row (by rw [forkV_len]) (fun _ => by omega) ?_
    intro j u hu
    obtain ⟨hj, e⟩ := List.getElem?_eq_some_iff.1 hu
    rw [forkV_len, ht] at hj
    have hq : j / 2 < len := by omega
    obtain ⟨c0, c1, _, _⟩ := hall (j / 2) (by omega)
    obtain ⟨e0, e1⟩ := hX (j / 2) (by omega)
    have hql : j / 2 < ((List.range len).map X).length := by rw [ht]; exact hq
    by_cases h2 : j % 2 = 0
    · have hjj : j = j / 2 * 2 := by omega
      have g := forkV_get1 ((List.range len).map X) (j / 2) hql
      rw [← hjj, hu] at g
      rw [hjj, c0, e0]
      rw [← Option.some.inj g.symm]
      simp
    · have hjj : j = j / 2 * 2 + 1 := by omega
      have g := forkV_get2 ((List.range len).map X) (j / 2) hql
      rw [← hjj, hu] at g
      rw [hjj, c1, e1]
      rw [← Option.some.inj g.symm]
      simp
theorem forkV1 (x : UInt64 × Bool) : forkV [x] = [.int .u64 x.1.toNat, .bool x.2] := rfl
end Go.Proofs.YtpmakhfpdidleaaDoor
namespace Go.Proofs.YtpmakhfpdidleaaDoor
open Go.RowKit
/-- All blocks but the one that was appended to are as they were. -/
def Kept (W : World) (v : Value) (w' : World) : Prop := W.heap.size ≤ w'.heap.size ∧ ∀ b, b < W.heap.size → v.ownBlock ≠ some b → w'.heap[b]? = W.heap[b]?
/-- append(v, x): the one new element lies in the block that was made last. -/
theorem app_one {P : Program} {W w0 : World} {ops : Array Oper} {rest : List Oper} {o : Oper} {a : Act} {Q : Exit → Act → World → Prop} (hgd : o.guard = none) (s x : Operand) (t : TypeId)
    (ho : o.op = .call { callee := .builtin .append, args := #[s, x], argTypes := #[t, t] }) (e : TypeId) (i : TypeInfo) (z : Value) (size bytes : Nat) (ht : P.underlying t = some (.slice e)) (hi : P.info? e = some i) (hz : i.zero = some z)
    (hsize : i.size = size) (hby : i.bytes = bytes) (hzs : z.cells.size = size) (hsz : 0 < size) (v : Value) (n : Nat) (xs : List Value) (hs : a.eval s = v) (hown : W.ownsRow w0.heap.size e size v n xs) (hB : Below w0.heap.size w0 W)
    (cs : List Value) (te : TypeId) (fr : Nat × Nat) (hx : a.eval x = .slice (some ⟨W.heap.size, 0, none⟩) 1 1) (hl : cs.length = 1 * size) (h1 : ∀ u ∈ cs, u.oneCell' = true) (h63 : n + 1 ≤ maxLen) (hbytes : (n + 1) * bytes ≤ 140737488355328)
    (h : ∀ v' w', w'.ownsRow w0.heap.size e size v' (n + 1) (xs ++ cs) → Below w0.heap.size w0 w' → Kept W v w' → wpList P ops Q rest (a.put o.dst v') w') : wpList P ops Q (o :: rest) a (W.alloc (.cells cs.toArray te fr)) := by
  refine wpList_append_own _ hgd s x t ho w0.heap.size e i z size bytes ht hi hz hsize hby hzs hsz v n xs hs (hown.alloc _) ⟨W.heap.size, 0, none⟩ 1 1 cs hx hl ?_ h1 h63 hbytes (by have := hB.size; simp; omega) ?_
  · intro j u hu
    have := World.news_of_block (cs := cs.toArray) (t := te) (fr := fr) (World.alloc_heap_new W _) j u (by simpa using hu)
    exact this
  · intro v' w' h2 h3 _
    refine h v' w' h2 ((hB.alloc hB.size _).grown h3 (by have := hB.size; simp; omega) (fun k hk => (hown.lt k hk).1)) ?_
    refine ⟨Nat.le_trans (by simp) h3.size, ?_⟩
    intro b hb hne
    exact (h3.block b (by simp; omega) (fun e => hne e.symm)).trans (Below.heap_alloc _ _ _ hb)
/-- append(v, src...): all elements of a slice that lies elsewhere. -/
theorem app_all {P : Program} {W w0 : World} {ops : Array Oper} {rest : List Oper} {o : Oper} {a : Act} {Q : Exit → Act → World → Prop} (hgd : o.guard = none) (s x : Operand) (t : TypeId)
    (ho : o.op = .call { callee := .builtin .append, args := #[s, x], argTypes := #[t, t] }) (e : TypeId) (i : TypeInfo) (z : Value) (size bytes : Nat) (ht : P.underlying t = some (.slice e)) (hi : P.info? e = some i) (hz : i.zero = some z)
    (hsize : i.size = size) (hby : i.bytes = bytes) (hzs : z.cells.size = size) (hsz : 0 < size) (v : Value) (n : Nat) (xs : List Value) (hs : a.eval s = v) (hown : W.ownsRow w0.heap.size e size v n xs) (hB : Below w0.heap.size w0 W)
    (ad : Addr) (m c : Nat) (cs : List Value) (hx : a.eval x = .slice (some ad) m c) (hl : cs.length = m * size) (hc : ∀ j u, cs[j]? = some u → W.cell? (ad.add j) = some u) (h1 : ∀ u ∈ cs, u.oneCell' = true) (h63 : n + m ≤ maxLen) (hbytes : (n + m) * bytes ≤ 140737488355328)
    (h : ∀ v' w', w'.ownsRow w0.heap.size e size v' (n + m) (xs ++ cs) → Below w0.heap.size w0 w' → Kept W v w' → wpList P ops Q rest (a.put o.dst v') w') : wpList P ops Q (o :: rest) a W := by
  refine wpList_append_own _ hgd s x t ho w0.heap.size e i z size bytes ht hi hz hsize hby hzs hsz v n xs hs hown ad m c cs hx hl hc h1 h63 hbytes hB.size ?_
  intro v' w' h2 h3 _
  exact h v' w' h2 (hB.grown h3 hB.size (fun k hk => (hown.lt k hk).1)) ⟨h3.size, fun b hb hne => h3.block b hb (fun e => hne e.symm)⟩
end Go.Proofs.YtpmakhfpdidleaaDoor
namespace Go.Proofs.YtpmakhfpdidleaaDoor
open Go.RowKit
/-- A slice value of m elements that reads as the cells cs: nil, or at some address. -/
def Src (W : World) (size : Nat) (x : Value) (m : Nat) (cs : List Value) : Prop :=
  (x = .slice none 0 0 ∧ m = 0 ∧ cs = []) ∨ ∃ ad c, x = .slice (some ad) m c ∧ cs.length = m * size ∧ ∀ j u, cs[j]? = some u → W.cell? (ad.add j) = some u
theorem Src.go {W W' : World} {size m : Nat} {x : Value} {cs : List Value} (h : Src W size x m cs) (k : Below W.heap.size W W') : Src W' size x m cs := by
  rcases h with h | ⟨ad, c, hx, hl, hc⟩
  · exact .inl h
  · refine .inr ⟨ad, c, hx, hl, fun j u hu => ?_⟩
    have h1 := hc j u hu
    obtain ⟨b, off, e, hb⟩ := addr_plain h1
    rw [k.cell (by rw [e]; exact hb)]
    exact h1
theorem Src.al {W : World} {size m : Nat} {x : Value} {cs : List Value} (h : Src W size x m cs) (o : Obj) : Src (W.alloc o) size x m cs := h.go (bal (Below.refl _ _) o)
theorem Src.drew {W : World} {size m : Nat} {x : Value} {cs : List Value} (h : Src W size x m cs) : Src W.drew size x m cs := h
theorem own_src {W : World} {base : Nat} {e : TypeId} {size n : Nat} {v : Value} {xs : List Value} (h : W.ownsRow base e size v n xs) : Src W size v n xs := by
  rcases h.2 with ⟨h1, h0⟩ | ⟨g, cap, cur, h1, _⟩
  · exact .inl ⟨h1, h0, by have := h.1; rw [h0] at this; exact List.length_eq_zero_iff.1 (by omega)⟩
  · subst h1
    exact .inr ⟨_, _, rfl, h.1, h.cells rfl⟩
theorem block_src (W : World) (cs : List Value) (te : TypeId) (fr : Nat × Nat) (m c size : Nat) (hl : cs.length = m * size) : Src (W.alloc (.cells cs.toArray te fr)) size (.slice (some ⟨W.heap.size, 0, none⟩) m c) m cs :=
  .inr ⟨_, _, rfl, hl, fun j u hu => World.news_of_block (cs := cs.toArray) (t := te) (fr := fr) (World.alloc_heap_new W _) j u (by simpa using hu)⟩
theorem Src.kept {W W' : World} {size m : Nat} {ad : Addr} {c : Nat} {cs : List Value} {v : Value} (h : Src W size (.slice (some ad) m c) m cs) (k : Kept W v W') (hne : v.ownBlock ≠ some ad.block) : Src W' size (.slice (some ad) m c) m cs := by
  rcases h with ⟨h, _⟩ | ⟨ad', c', hx, hl, hc⟩
  · cases h
  · injection hx with e1 e2 e3
    injection e1 with e1
    subst e1 e3
    refine .inr ⟨ad, c, rfl, hl, fun j u hu => ?_⟩
    have h1 := hc j u hu
    obtain ⟨b, off, e, hb⟩ := addr_plain h1
    have hbl : (ad.add j).block = ad.block := by unfold Addr.add; split <;> rfl
    rw [World.cell?_of_block (k.2 _ (by rw [e]; exact hb) (by rw [hbl]; exact hne))]
    exact h1
theorem own_empty (W : World) (e te : TypeId) (size : Nat) (hte : te = e) : (W.alloc (.cells #[] te)).ownsRow W.heap.size e size (.slice (some ⟨W.heap.size, 0, none⟩) 0 0) 0 [] := by
  subst hte
  exact ⟨by simp, .inr ⟨W.heap.size, 0, #[], rfl, Nat.le_refl _, World.alloc_heap_new W _, Nat.le_refl _, Nat.zero_le _, by simp, by simp⟩⟩
/-- append(v, src...) run. -/
theorem run_app {P : Program} {W w0 : World} (t ty e : TypeId) (i : TypeInfo) (z : Value) (size bytes : Nat) (ht : P.underlying t = some (.slice e)) (hi : P.info? e = some i) (hz : i.zero = some z)
    (hsize : i.size = size) (hby : i.bytes = bytes) (hzs : z.cells.size = size) (hsz : 0 < size) (v : Value) (n : Nat) (xs : List Value) (hown : W.ownsRow w0.heap.size e size v n xs) (hB : Below w0.heap.size w0 W)
    (sv : Value) (m : Nat) (cs : List Value) (hsrc : Src W size sv m cs) (h1 : ∀ u ∈ cs, u.oneCell' = true) (h63 : n + m ≤ maxLen) (hbytes : (n + m) * bytes ≤ 140737488355328) :
    ∃ v' w', (Builtin.append_ #[t, t] ty #[v, sv]).run P W = .ok v' w' ∧ w'.ownsRow w0.heap.size e size v' (n + m) (xs ++ cs) ∧ Below w0.heap.size w0 w' ∧ Kept W v w' := by
  rcases hsrc with ⟨rfl, rfl, rfl⟩ | ⟨ad, c, rfl, hl, hc⟩
  · have hrun := run_append_owned_none (P := P) (w := W) w0.heap.size t ty e i size ht hi v n xs hown
    exact ⟨v, W, hrun, by simpa using hown, hB, Nat.le_refl _, fun _ _ _ => rfl⟩
  · obtain ⟨v', w', hr, h2, h3, h4⟩ := run_append_own (P := P) W w0.heap.size t ty e i z size bytes ht hi hz hsize hby hzs hsz v n xs hown ad m c cs hl hc h1 h63 hbytes hB.size
    exact ⟨v', w', hr, h2, hB.grown h3 hB.size (fun k hk => (hown.lt k hk).1), h3.size, fun b hb hne => h3.block b hb (fun e => hne e.symm)⟩
theorem app_src {P : Program} {W w0 : World} {ops : Array Oper} {rest : List Oper} {o : Oper} {a : Act} {Q : Exit → Act → World → Prop} (hgd : o.guard = none) (s x : Operand) (t : TypeId)
    (ho : o.op = .call { callee := .builtin .append, args := #[s, x], argTypes := #[t, t] }) (e : TypeId) (i : TypeInfo) (z : Value) (size bytes : Nat) (ht : P.underlying t = some (.slice e)) (hi : P.info? e = some i) (hz : i.zero = some z)
    (hsize : i.size = size) (hby : i.bytes = bytes) (hzs : z.cells.size = size) (hsz : 0 < size) (v : Value) (n : Nat) (xs : List Value) (hs : a.eval s = v) (hown : W.ownsRow w0.heap.size e size v n xs) (hB : Below w0.heap.size w0 W)
    (sv : Value) (m : Nat) (cs : List Value) (hx : a.eval x = sv) (hsrc : Src W size sv m cs) (h1 : ∀ u ∈ cs, u.oneCell' = true) (h63 : n + m ≤ maxLen) (hbytes : (n + m) * bytes ≤ 140737488355328)
    (h : ∀ v' w', w'.ownsRow w0.heap.size e size v' (n + m) (xs ++ cs) → Below w0.heap.size w0 w' → Kept W v w' → wpList P ops Q rest (a.put o.dst v') w') : wpList P ops Q (o :: rest) a W := by
  obtain ⟨v', w', hr, h2, h3, h4⟩ := run_app (ty := o.type) t e i z size bytes ht hi hz hsize hby hzs hsz v n xs hown hB sv m cs hsrc h1 h63 hbytes
  refine wpList_plain hgd fun K hK => ?_
  unfold Oper.wp
  simp [execOp, ho, resolve, invoke, builtin, hs, hx, hr, Result.andThen]
  exact hK _ _ (h v' w' h2 h3 h4)
theorem step_src {P : Program} {W w0 : World} {ops : Array Oper} {o : Oper} {a : Act} {K : Act → World → Prop} {Q : Exit → Act → World → Prop} {E : Prop} (hgd : o.guard = none) (s x : Operand) (t : TypeId)
    (ho : o.op = .call { callee := .builtin .append, args := #[s, x], argTypes := #[t, t] }) (e : TypeId) (i : TypeInfo) (z : Value) (size bytes : Nat) (ht : P.underlying t = some (.slice e)) (hi : P.info? e = some i) (hz : i.zero = some z)
    (hsize : i.size = size) (hby : i.bytes = bytes) (hzs : z.cells.size = size) (hsz : 0 < size) (v : Value) (n : Nat) (xs : List Value) (hs : a.eval s = v) (hown : W.ownsRow w0.heap.size e size v n xs) (hB : Below w0.heap.size w0 W)
    (sv : Value) (m : Nat) (cs : List Value) (hx : a.eval x = sv) (hsrc : Src W size sv m cs) (h1 : ∀ u ∈ cs, u.oneCell' = true) (h63 : n + m ≤ maxLen) (hbytes : (n + m) * bytes ≤ 140737488355328)
    (h : ∀ v' w', w'.ownsRow w0.heap.size e size v' (n + m) (xs ++ cs) → Below w0.heap.size w0 w' → Kept W v w' → K (a.put o.dst v') w') :
    if Region.wanted o (yielded ops a.tmps) = true then Oper.wp P o a W K Q else E := by
  obtain ⟨v', w', hr, h2, h3, h4⟩ := run_app (ty := o.type) t e i z size bytes ht hi hz hsize hby hzs hsz v n xs hown hB sv m cs hsrc h1 h63 hbytes
  rw [if_pos (by simp [Region.wanted, hgd])]
  unfold Oper.wp
  simp [execOp, ho, resolve, invoke, builtin, hs, hx, hr, Result.andThen]
  exact h v' w' h2 h3 h4
end Go.Proofs.YtpmakhfpdidleaaDoor
namespace Go.Proofs.YtpmakhfpdidleaaDoor
open Go.RowKit Go.Shelf
set_option linter.unusedVariables false
set_option linter.unusedSimpArgs false
def okC (c : UInt8) : Bool := decide ((97 ≤ c.toNat ∧ c.toNat ≤ 122) ∨ (48 ≤ c.toNat ∧ c.toNat ≤ 57) ∨ c.toNat = 95)
/-- Whether a text is a name. -/
def isNameB (s : ByteArray) : Bool := decide (0 < s.size ∧ s.size ≤ 16 ∧ 97 ≤ (s.data.toList.headD 0).toNat ∧ (s.data.toList.headD 0).toNat ≤ 122 ∧ ∀ c ∈ s.data.toList, okC c = true)
theorem name_head (s : ByteArray) (h : 0 < s.size) : s.data.toList.headD 0 = s[0] := by
  obtain ⟨⟨l⟩⟩ := s
  cases l with
  | nil => exact absurd h (Nat.lt_irrefl 0)
  | cons a l => rfl
theorem name_get (s : ByteArray) (k : Nat) (h : k < s.size) : s.data.toList[k]'(by simpa using h) = s[k] := rfl
theorem name_no {s : ByteArray} {k : Nat} (h : k < s.size) (hc : okC s[k] = false) : isNameB s = false := by
  refine decide_eq_false ?_
  intro hh
  have := hh.2.2.2.2 _ (List.getElem_mem (show k < s.data.toList.length by simpa using h))
  rw [name_get s k h, hc] at this
  cases this
theorem name_yes {s : ByteArray} (h0 : 0 < s.size) (h16 : s.size ≤ 16) (h1 : 97 ≤ s[0].toNat) (h2 : s[0].toNat ≤ 122) (hc : ∀ k (h : k < s.size), okC s[k] = true) : isNameB s = true := by
  refine decide_eq_true ⟨h0, h16, by rw [name_head s h0]; exact h1, by rw [name_head s h0]; exact h2, ?_⟩
  intro c hm
  obtain ⟨k, hk, rfl⟩ := List.getElem_of_mem hm
  rw [name_get s k (by simpa using hk)]
  exact hc k (by simpa using hk)
theorem bytes_extL {s t : ByteArray} (h : s.toList = t.toList) : s = t := by
  rw [ByteArray.toList_eq, ByteArray.toList_eq] at h
  exact WideShapes.bytes_inj h
theorem ne_empty {s : ByteArray} (h : 0 < s.size) : s.toList.isEmpty = false ∧ ¬ s.toList = [] := by
  have : ¬ s.toList = [] := by
    intro e
    have := bytes_extL (s := s) (t := ⟨#[]⟩) (by rw [e, ByteArray.toList_eq])
    rw [this] at h
    exact absurd h (Nat.lt_irrefl 0)
  exact ⟨by cases hh : s.toList with
    | nil => exact absurd hh this
    | cons a l => rfl, this⟩
theorem is_empty {s : ByteArray} (h : ¬ 0 < s.size) : s = ⟨#[]⟩ := by
  obtain ⟨⟨l⟩⟩ := s
  cases l with
  | nil => rfl
  | cons a l => exact absurd (Nat.succ_pos _) h
end Go.Proofs.YtpmakhfpdidleaaDoor
namespace Go.Proofs.YtpmakhfpdidleaaDoor
open Go.RowKit Go.Shelf
set_option linter.unusedVariables false
set_option linter.unusedSimpArgs false
set_option maxRecDepth 100000 in
set_option maxHeartbeats 1000000 in
theorem hnName_any (s : ByteArray) (w : World) (hs : s.size ≤ maxLen) : Calls Tryd.prog 34 #[.string s] w fun e w' => e = .returned (.bool (isNameB s)) ∧ w = w' := by
  unfold maxLen at hs
  by_cases h0 : 0 < s.size
  · obtain ⟨he, he'⟩ := ne_empty h0
    by_cases h16 : s.size ≤ 16
    · have h16' : ¬ (16 : Int) < (s.size : Int) := by omega
      have h00 : (0 : Int) < (s.size : Int) := by omega
      by_cases hc : 97 ≤ s[0].toNat ∧ s[0].toNat ≤ 122
      · obtain ⟨c0, hc0⟩ : ∃ c, s[0] = c := ⟨_, rfl⟩
        have HC := Lib.hid (And.intro hc0 hc)
        rw [hc0] at hc
        have hc1 : ¬ (c0.toNat : Int) < 97 := by omega
        have hc2 : ¬ 122 < (c0.toNat : Int) := by omega
        clear hc
        go_enter Tryd.func34, Tryd.ntmps34
        go_wp2_with fail
        clear hc0 hc1 hc2
        go_loop [24] (fun i => ∃ k : Nat, k ≤ s.size ∧ i = .int .i64 (k : Int) ∧ ∀ j (h : j < s.size), j < k → okC s[j] = true) (fun i => s.size - (intOf i).toNat)
        case atStart => exact ⟨0, Nat.zero_le _, rfl, fun j h hj => absurd hj (Nat.not_lt_zero j)⟩
        case round =>
          obtain ⟨k, hk, rfl, hok⟩ := hrel
          have Hok := Lib.hid hok
          clear hok
          by_cases hlt : k < s.size
          · have hlt' : (k : Int) < (s.size : Int) := by omega
            cases hcc : okC s[k] with
            | false =>
              have Hno := Lib.hid (name_no hlt hcc)
              obtain ⟨c, hce⟩ : ∃ c, s[k] = c := ⟨_, rfl⟩
              have hcn := of_decide_eq_false hcc
              rw [hce] at hcn
              clear hcc
              by_cases q1 : c.toNat < 97
              · have q1' : (c.toNat : Int) < 97 := by omega
                by_cases q2 : c.toNat < 48
                · have q2' : (c.toNat : Int) < 48 := by omega
                  have q3 : ((c.toNat : Int) == 95) = false := by simp; omega
                  have q3' : ((c.toNat : Int) != 95) = true := by simp; omega
                  clear hcn q1 q2
                  go_wp2
                  go_ret
                  exact ⟨by rw [Hno.out]; rfl, rfl⟩
                · have q2' : ¬ (c.toNat : Int) < 48 := by omega
                  have q3 : ((c.toNat : Int) == 95) = false := by simp; omega
                  have q3' : ((c.toNat : Int) != 95) = true := by simp; omega
                  have q4 : 57 < (c.toNat : Int) := by omega
                  clear hcn q1 q2
                  go_wp2
                  go_ret
                  exact ⟨by rw [Hno.out]; rfl, rfl⟩
              · have q1' : ¬ (c.toNat : Int) < 97 := by omega
                have q2' : ¬ (c.toNat : Int) < 48 := by omega
                have q3 : ((c.toNat : Int) == 95) = false := by simp; omega
                have q3' : ((c.toNat : Int) != 95) = true := by simp; omega
                have q4 : 57 < (c.toNat : Int) := by omega
                have q5 : 122 < (c.toNat : Int) := by omega
                clear hcn q1
                go_wp2
                go_ret
                exact ⟨by rw [Hno.out]; rfl, rfl⟩
            | true =>
              have Hy : Hid (∀ j (h : j < s.size), j < k + 1 → okC s[j] = true) := Lib.hid (fun j h hj => by
                by_cases e : j < k
                · exact Hok.out j h e
                · obtain rfl : j = k := by omega
                  exact hcc)
              obtain ⟨c, hce⟩ : ∃ c, s[k] = c := ⟨_, rfl⟩
              have hcn := of_decide_eq_true hcc
              rw [hce] at hcn
              clear hcc
              by_cases q1 : c.toNat < 97
              · have q1' : (c.toNat : Int) < 97 := by omega
                by_cases q2 : c.toNat = 95
                · have q3 : ((c.toNat : Int) == 95) = true := by simp; omega
                  have q3' : ((c.toNat : Int) != 95) = false := by simp; omega
                  have q4 : 57 < (c.toNat : Int) := by omega
                  have q5 : ¬ (c.toNat : Int) < 48 := by omega
                  clear hcn q1 q2
                  go_wp2
                  go_round
                  case rel => exact ⟨k + 1, by omega, by go_num, Hy.out⟩
                  case measure => simp [intOf]; omega
                · have q4 : ¬ 57 < (c.toNat : Int) := by omega
                  have q5 : ¬ (c.toNat : Int) < 48 := by omega
                  clear hcn q1 q2
                  go_wp2
                  go_round
                  case rel => exact ⟨k + 1, by omega, by go_num, Hy.out⟩
                  case measure => simp [intOf]; omega
              · have q1' : ¬ (c.toNat : Int) < 97 := by omega
                have q4 : ¬ 122 < (c.toNat : Int) := by omega
                clear hcn q1
                go_wp2
                go_round
                case rel => exact ⟨k + 1, by omega, by go_num, Hy.out⟩
                case measure => simp [intOf]; omega
          · obtain rfl : k = s.size := by omega
            go_wp2
            go_ret
            exact ⟨by rw [name_yes h0 h16 (by rw [HC.out.1]; rw [HC.out.1] at HC; exact HC.out.2.1) (by rw [HC.out.1]; rw [HC.out.1] at HC; exact HC.out.2.2) (fun j h => Hok.out j h h)]; rfl, rfl⟩
      · have hno : isNameB s = false := decide_eq_false (fun h => hc ⟨by rw [← name_head s h0]; exact h.2.2.1, by rw [← name_head s h0]; exact h.2.2.2.1⟩)
        have Hno := Lib.hid hno
        obtain ⟨c0, hc0⟩ : ∃ c, s[0] = c := ⟨_, rfl⟩
        rw [hc0] at hc
        clear hno
        by_cases h1 : c0.toNat < 97
        · have h1' : (c0.toNat : Int) < 97 := by omega
          clear hc h1
          go_enter Tryd.func34, Tryd.ntmps34
          go_wp2_with fail
          go_ret
          exact ⟨by rw [Hno.out]; rfl, rfl⟩
        · have h1' : ¬ (c0.toNat : Int) < 97 := by omega
          have h2' : 122 < (c0.toNat : Int) := by omega
          clear hc h1
          go_enter Tryd.func34, Tryd.ntmps34
          go_wp2_with fail
          go_ret
          exact ⟨by rw [Hno.out]; rfl, rfl⟩
    · have h16' : (16 : Int) < (s.size : Int) := by omega
      have Hno := Lib.hid (show isNameB s = false from decide_eq_false (fun h => h16 h.2.1))
      clear h16
      go_enter Tryd.func34, Tryd.ntmps34
      go_wp2_with fail
      go_ret
      exact ⟨by rw [Hno.out]; rfl, rfl⟩
  · obtain rfl := is_empty h0
    go_enter Tryd.func34, Tryd.ntmps34
    go_wp2_with fail
    go_ret
    exact ⟨rfl, rfl⟩
/-- A total. -/
structure TotD where
  e : ByteArray
  p : ByteArray
  m : Int
  g : Int
  x : Int
deriving DecidableEq
def totC (t : TotD) : Array Value := #[.string t.e, .string t.p, .int .i64 t.m, .int .i64 t.g, .int .i64 t.x]
def totV (t : TotD) : Value := .agg (totC t)
def validTB (t : TotD) : Bool := isNameB t.e && isNameB t.p && decide (0 ≤ t.m ∧ t.m ≤ 1199) && decide (-1000000000000 ≤ t.g ∧ t.g ≤ 1000000000000 ∧ -1000000000000 ≤ t.x ∧ t.x ≤ 1000000000000)
end Go.Proofs.YtpmakhfpdidleaaDoor
namespace Go.Cal
def bef : Nat → Nat
  | 0 => 0
  | 1 => 31
  | 2 => 59
  | 3 => 90
  | 4 => 120
  | 5 => 151
  | 6 => 181
  | 7 => 212
  | 8 => 243
  | 9 => 273
  | 10 => 304
  | 11 => 334
  | _ => 365
/-- The length of month k (0 to 11) of a year. -/
def len (y k : Nat) : Nat := bef (k + 1) - bef k + (if k = 1 ∧ y % 4 = 0 then 1 else 0)
/-- The first day of month m (0 to 1199). -/
def first (m : Nat) : Nat := m / 12 * 365 + (m / 12 + 3) / 4 + bef (m % 12) + (if 1 < m % 12 ∧ m / 12 % 4 = 0 then 1 else 0)
def lenM (m : Nat) : Nat := len (m / 12) (m % 12)
theorem k12 (k : Nat) (h : k < 12) : k = 0 ∨ k = 1 ∨ k = 2 ∨ k = 3 ∨ k = 4 ∨ k = 5 ∨ k = 6 ∨ k = 7 ∨ k = 8 ∨ k = 9 ∨ k = 10 ∨ k = 11 := by omega
theorem first_succ (m : Nat) : first (m + 1) = first m + lenM m := by
  have hk := k12 (m % 12) (Nat.mod_lt _ (by omega))
  unfold first lenM len
  rcases hk with h | h | h | h | h | h | h | h | h | h | h | h
  all_goals
    have h1 : (m + 1) / 12 = m / 12 + (if m % 12 = 11 then 1 else 0) := by rw [h]; simp <;> omega
    have h2 : (m + 1) % 12 = (if m % 12 = 11 then 0 else m % 12 + 1) := by rw [h]; simp <;> omega
    rw [h1, h2, h]
    simp [bef]
    try (split <;> omega)
    try omega
theorem lenM_bounds (m : Nat) : 28 ≤ lenM m ∧ lenM m ≤ 31 := by
  have hk := k12 (m % 12) (Nat.mod_lt _ (by omega))
  unfold lenM len
  rcases hk with h | h | h | h | h | h | h | h | h | h | h | h <;> rw [h] <;> simp [bef]
  split <;> omega
theorem first_0 : first 0 = 0 := rfl
theorem first_1200 : first 1200 = 36525 := by decide
theorem first_mono (a : Nat) : ∀ d, first a + 28 * d ≤ first (a + d)
  | 0 => by simp
  | d + 1 => by
    have := first_mono a d
    rw [← Nat.add_assoc, first_succ]
    have := lenM_bounds (a + d)
    omega
theorem first_le {a b : Nat} (h : a ≤ b) : first a ≤ first b := by
  obtain ⟨d, rfl⟩ : ∃ d, b = a + d := ⟨b - a, by omega⟩
  have := first_mono a d
  omega
theorem first_lt {a b : Nat} (h : a < b) : first a < first b := by
  obtain ⟨d, rfl⟩ : ∃ d, b = a + (d + 1) := ⟨b - a - 1, by omega⟩
  have := first_mono a (d + 1)
  omega
theorem first_bound {m : Nat} (h : m ≤ 1200) : first m ≤ 36525 := by rw [← first_1200]; exact first_le h
theorem exists_upto (n K : Nat) (h : n < first K) : ∃ M, M < K ∧ first M ≤ n ∧ n < first (M + 1) := by
  induction K with
  | zero => rw [first_0] at h; omega
  | succ K ih =>
    by_cases h1 : n < first K
    · obtain ⟨M, h2, h3⟩ := ih h1
      exact ⟨M, by omega, h3⟩
    · exact ⟨K, by omega, by omega, h⟩
/-- Day n lies in month M. -/
def InM (n M : Nat) : Prop := M < 1200 ∧ first M ≤ n ∧ n < first (M + 1)
theorem exists_month (n : Nat) (h : n < 36525) : ∃ M, InM n M := by
  obtain ⟨M, h1, h2⟩ := exists_upto n 1200 (by rw [first_1200]; exact h)
  exact ⟨M, h1, h2⟩
theorem InM.day {n M : Nat} (h : InM n M) : n < 36525 := by
  have := first_bound (show M + 1 ≤ 1200 from h.1)
  have := h.2.2
  omega
theorem InM.unique {n M K : Nat} (h : InM n M) (k : InM n K) : M = K := by
  rcases Nat.lt_trichotomy M K with hl | hl | hl
  · have := first_le (show M + 1 ≤ K from hl)
    have := h.2.2
    have := k.2.1
    omega
  · exact hl
  · have := first_le (show K + 1 ≤ M from hl)
    have := k.2.2
    have := h.2.1
    omega
theorem InM.mono {n k M K : Nat} (h : InM n M) (h' : InM k K) (hn : n ≤ k) : M ≤ K := by
  rcases Nat.lt_or_ge K M with hl | hl
  · have := first_le (show K + 1 ≤ M from hl)
    have := h.2.1
    have := h'.2.2
    omega
  · exact hl
/-- The day of the month. -/
def dom (n M : Nat) : Nat := n - first M + 1
theorem InM.dom {n M : Nat} (h : InM n M) : 1 ≤ dom n M ∧ dom n M ≤ lenM M ∧ first M + dom n M = n + 1 := by
  have h1 := first_succ M
  have h2 := h.2
  unfold Cal.dom
  omega
theorem inM_of {M d : Nat} (hM : M < 1200) (h1 : 1 ≤ d) (h2 : d ≤ lenM M) : InM (first M + d - 1) M := by
  have h3 := first_succ M
  exact ⟨hM, by omega, by omega⟩
theorem lenM_year (y k : Nat) (hk : k < 12) : lenM (y * 12 + k) = len y k := by
  unfold lenM
  rw [show (y * 12 + k) / 12 = y by omega, show (y * 12 + k) % 12 = k by omega]
theorem len_4 (y k : Nat) : len (2000 + y) k = len y k := by
  unfold len
  rw [show (2000 + y) % 4 = y % 4 by omega]
theorem first_48 (q : Nat) : first (48 * q) = 1461 * q := by
  unfold first
  rw [show 48 * q / 12 = 4 * q by omega, show 48 * q % 12 = 0 by omega]
  simp [bef]
  omega
def dig (n : Nat) : UInt8 := UInt8.ofNat (48 + n)
def two (n : Nat) : List UInt8 := [dig (n / 10), dig (n % 10)]
def four (n : Nat) : List UInt8 := [dig (n / 1000), dig (n / 100 % 10), dig (n / 10 % 10), dig (n % 10)]
/-- The text of a date. -/
def text (y m d : Nat) : List UInt8 := four y ++ 45 :: two m ++ 45 :: two d
end Go.Cal
