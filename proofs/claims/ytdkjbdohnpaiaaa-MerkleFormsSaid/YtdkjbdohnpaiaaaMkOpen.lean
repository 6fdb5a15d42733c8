/- Arguments that are slices of strings or of forks, opened as plain lists. -/
import Derived.Test.YtdkjbdohnpaiaaaMkHead
import Derived.SliceStrings
import Derived.Deep.SlicePairs
import Derived.ChangeArms
namespace Go.Proofs.Ytdkjbdohnpaiaaa
open Go.RowKit Go.ChangeShapes Go.WideShapes Go.Deep
theorem cells_string : Try.prog.cellsOf 9 = 1 := by kernel_rfl
theorem cells_fork : Try.prog.cellsOf 42 = 2 := by kernel_rfl
theorem cells_digest : Try.prog.cellsOf 24 = 1 := by kernel_rfl
theorem cells_bool : Try.prog.cellsOf 4 = 1 := by kernel_rfl
theorem addr_plain {W : World} {a : Addr} {u : Value} (h : W.cell? a = some u) : ∃ b off, a = ⟨b, off, none⟩ ∧ b < W.heap.size := by
  obtain ⟨b, off, sp⟩ := a
  unfold World.cell? at h
  cases hb : W.heap[b]? with
  | none => simp [hb] at h
  | some o =>
    have hlt := (Array.getElem?_eq_some_iff.1 hb).1
    cases o <;> simp [hb] at h
    obtain ⟨hs, _⟩ := h
    exact ⟨b, off, by rw [hs], hlt⟩
theorem sl_of_row {W : World} {a : Addr} {size n : Nat} {xs : List Value} (hl : xs.length = n * size) (h : 0 < n → 0 < size) (hc : ∀ j u, xs[j]? = some u → W.cell? (a.add j) = some u) : Sl W W.heap.size size (some a) n xs := by
  refine ⟨hl, fun hn => ?_⟩
  have h0 : 0 < xs.length := by rw [hl]; exact Nat.mul_pos hn (h hn)
  have e0 := hc 0 xs[0] (List.getElem?_eq_getElem h0)
  obtain ⟨b, off, e, hb⟩ := addr_plain e0
  obtain ⟨b', off', sp⟩ := a
  have e : (⟨b', off', sp⟩ : Addr) = ⟨b, off, none⟩ := e
  rw [e] at hc ⊢
  exact ⟨b, off, rfl, hb, fun j u h => by have := hc j u h; rwa [Addr.add_lit] at this⟩
theorem sl_strs {H : Type} {enc : TypeId × Value → H} {W : World} {base : Nat} {v : Value} {d : DataW H} {p : List MemPlace} (hv : Value.okWide Try.prog W .any base 22 v) (h : DataW.Trod enc Try.prog W 0 (fun _ => true) true 22 v d p) :
    ∃ (A : Option Addr) (c : Nat) (ss : List ByteArray), v = .slice A ss.length c ∧ Sl W W.heap.size 1 A ss.length (strV ss) ∧ (ss.length ≤ c ∧ c ≤ maxLen) ∧ (∀ s ∈ ss, s.size ≤ maxLen) := by
  obtain ⟨a0, len, cap, rfl⟩ := okWide_slice Try.underlying22 hv
  obtain ⟨fuel, hf⟩ := h
  rcases open_strings Try.underlying22 Try.underlying9 cells_string hf with ⟨hcs, hx⟩ | ⟨a, len', cap', ss, hcs, _, hl, hm, hz, hx, hcell, hws⟩
  · simp [Value.cells] at hcs
    obtain ⟨rfl, rfl, rfl⟩ := hcs
    exact ⟨none, 0, [], rfl, Sl.nil _ 1, ⟨Nat.le_refl _, Nat.zero_le _⟩, fun s h => by cases h⟩
  · simp [Value.cells] at hcs
    obtain ⟨rfl, rfl, rfl⟩ := hcs
    simp only [if_true] at hz
    have ht : (ss.take len).length = len := by rw [List.length_take]; omega
    refine ⟨some a, cap, ss.take len, by rw [ht], ?_, ⟨by omega, by omega⟩, fun s h => hws s (List.mem_of_mem_take h)⟩
    refine sl_of_row (by simp [strV]) (fun _ => Nat.one_pos) ?_
    intro j u hu
    obtain ⟨hj, e⟩ := List.getElem?_eq_some_iff.1 hu
    have hj' : j < len := by simp [strV] at hj; omega
    rw [hcell j (by omega), ← e]
    simp [strV, List.getD, show j < ss.length by omega]
theorem sl_forks {H : Type} {enc : TypeId × Value → H} {W : World} {base : Nat} {v : Value} {d : DataW H} {p : List MemPlace} (hv : Value.okWide Try.prog W .any base 25 v) (h : DataW.Trod enc Try.prog W 0 (fun _ => true) true 25 v d p) :
    ∃ (A : Option Addr) (c : Nat) (l : Forks), v = .slice A l.length c ∧ Sl W W.heap.size 2 A l.length (forkV l) ∧ (l.length ≤ c ∧ c ≤ maxLen) := by
  obtain ⟨a0, len, cap, rfl⟩ := okWide_slice Try.underlying25 hv
  obtain ⟨fuel, hf⟩ := h
  rcases open_slice_pairs Try.underlying25 Try.underlying42 cells_fork rfl rfl cells_digest cells_bool hf with ⟨hcs, hx⟩ | ⟨a, len', cap', m, n, V0, V1, D0, D1, P0, P1, hcs, _, hl, hm, hmm, hx, hall⟩
  · simp [Value.cells] at hcs
    obtain ⟨rfl, rfl, rfl⟩ := hcs
    exact ⟨none, 0, [], rfl, Sl.nil _ 2, ⟨Nat.le_refl _, Nat.zero_le _⟩⟩
  · simp [Value.cells] at hcs
    obtain ⟨rfl, rfl, rfl⟩ := hcs
    simp only [if_true] at hmm
    subst hmm
    have each : ∀ i, i < m → ∃ x : UInt64 × Bool, V0 i = .int .u64 x.1.toNat ∧ V1 i = .bool x.2 := by
      intro i hi
      obtain ⟨_, _, h0, h1⟩ := hall i hi
      obtain ⟨z, hz, _, hw⟩ := DataW.trod_int Try.underlying24 h0
      obtain ⟨b, hb, _⟩ := DataW.trod_bool Try.underlying4 h1
      obtain ⟨u, rfl⟩ := u64_of_wf hw
      exact ⟨(u, b), by simpa using hz, by simpa using hb⟩
    obtain ⟨X, hX⟩ := choose_lt each
    have ht : ((List.range len).map X).length = len := by simp
    refine ⟨some a, m, (List.range len).map X, by rw [ht], ?_, ⟨by omega, by omega⟩⟩
    refine sl_of_row (by rw [forkV_len]) (fun _ => by omega) ?_
    intro j u hu
    obtain ⟨hj, e⟩ := List.getElem?_eq_some_iff.1 hu
    rw [forkV_len, ht] at hj
    have hq : j / 2 < len := by omega
    obtain ⟨c0, c1, _, _⟩ := hall (j / 2) (by omega)
    obtain ⟨e0, e1⟩ := hX (j / 2) (by omega)
    have hql : j / 2 < ((List.range len).map X).length := by rw [ht]; exact hq
    by_cases h2 : j % 2 = 0
    · have hjj : j = j / 2 * 2 := by omega
      have g := forkV_get1 ((List.range len).map X) (j / 2) hql
      rw [← hjj, hu] at g
      rw [hjj, c0, e0]
      rw [← Option.some.inj g.symm]
      simp
    · have hjj : j = j / 2 * 2 + 1 := by omega
      have g := forkV_get2 ((List.range len).map X) (j / 2) hql
      rw [← hjj, hu] at g
      rw [hjj, c1, e1]
      rw [← Option.some.inj g.symm]
      simp
theorem Sl.take {W : World} {B size n : Nat} {A : Option Addr} {xs : List Value} (h : Sl W B size A n xs) (k : Nat) (hk : k ≤ n) : Sl W B size A k (xs.take (k * size)) := by
  have hm : k * size ≤ n * size := Nat.mul_le_mul_right _ hk
  refine ⟨by rw [List.length_take, h.1]; omega, fun h0 => ?_⟩
  obtain ⟨b, off, e, hb, hc⟩ := h.2 (by omega)
  refine ⟨b, off, e, hb, fun j u hu => hc j u ?_⟩
  rw [List.getElem?_take] at hu
  split at hu
  · exact hu
  · cases hu
theorem Sl.drop {W : World} {B size n b off : Nat} {xs : List Value} (h : Sl W B size (some ⟨b, off, none⟩) n xs) (k : Nat) (hk : k < n) : Sl W B size (some ⟨b, off + k * size, none⟩) (n - k) (xs.drop (k * size)) := by
  refine ⟨by rw [List.length_drop, h.1, Nat.sub_mul], fun h0 => ?_⟩
  obtain ⟨b', off', e, hb, hc⟩ := h.2 (by omega)
  injection e with e
  injection e with e1 e2 e3
  subst e1 e2
  refine ⟨_, _, rfl, hb, fun j u hu => ?_⟩
  rw [List.getElem?_drop] at hu
  rw [Nat.add_assoc]
  exact hc _ u hu
theorem forkV1 (x : UInt64 × Bool) : forkV [x] = [.int .u64 x.1.toNat, .bool x.2] := rfl
end Go.Proofs.Ytdkjbdohnpaiaaa
