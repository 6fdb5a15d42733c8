/- Small facts that many walks use; no function of the program is named. -/
import Derived.Test.YtgkilaafeconlaaDoorProg
import Derived.WalkKit
import Derived.WalkLawsBesides
import Derived.WalkSpells
import Derived.Outline
import Derived.Lib.Hide
import Derived.Handy
import Derived.BigQuiet
import Derived.Deep.QuietTactic
import Derived.OpenShut
import Derived.Deep.OwnRows
import Derived.OwnWalk
import Derived.Maps.AppendAt
import Derived.Deep.AppendLies
import Derived.RangeFuncBox
import Derived.RangeFuncRecord
namespace Go.Proofs.YtgkilaafeconlaaDoor
open Go.RowKit
set_option linter.unusedVariables false
theorem bcell {W w1 : World} (hb : Below W.heap.size W w1) : (∀ b o, b < W.heap.size → w1.cell? ⟨b, o, none⟩ = W.cell? ⟨b, o, none⟩) ∧ (∀ b o, b < W.heap.size → w1.frozen? ⟨b, o, none⟩ = W.frozen? ⟨b, o, none⟩) :=
  ⟨fun b o h => hb.cell (p := ⟨b, o, none⟩) h, fun b o h => hb.frozen (p := ⟨b, o, none⟩) h⟩
theorem bt {a b c : World} (h : Below a.heap.size a b) (k : Below b.heap.size b c) : Below a.heap.size a c := h.trans (k.mono h.size)
theorem quiet_left {P : Program} {f : FuncId} {args : Array Value} {w : World} {n : Nat} {v : Value}
    (h : Calls P f args (w.drewN n) fun e w' => e = .returned v ∧ w.drewN n = w') : Calls P f args (w.drewN n) fun e w'' => e = .returned v ∧ ∃ m, w'' = w.drewN m :=
  h.mono fun _ _ ⟨he, hm⟩ => ⟨he, n, hm.symm⟩
theorem below_drewN {B : Nat} {a w : World} (h : Below B a w) (n : Nat) : Below B a (w.drewN n) := ⟨h.os, h.tape, h.output, h.size, h.block⟩
theorem cons_bytes (c : UInt8) (l : List UInt8) : ((⟨[c].toArray⟩ : ByteArray) ++ ⟨l.toArray⟩) = ⟨(c :: l).toArray⟩ := by
  apply ByteArray.ext; simp [ByteArray.data_append]
theorem byte_back (W : World) (B : Nat) (c : UInt8) (h : W.cell? ⟨B, 0, none⟩ = some (.int .u8 c.toNat)) : (convert 114 9 (.slice (some ⟨B, 0, none⟩) 1 1)).run Tryd.prog W = .ok (.string ⟨[c].toArray⟩) W := by
  refine run_convert_bytes_back (P := Tryd.prog) W 114 9 5 ⟨B, 0, none⟩ 1 [c] Tryd.underlying114 Tryd.underlying5 Tryd.underlying9 ?_
  intro j hj
  obtain rfl : j = 0 := by simpa using hj
  exact h
theorem u64_of_wf {a : Int} (h : (Lit.int .u64 a).wf = true) : ∃ u : UInt64, a = u.toNat := by
  have h1 : 0 ≤ a ∧ a < 18446744073709551616 := by
    have := bounds_u64 h; omega
  exact ⟨UInt64.ofNat a.toNat, by rw [UInt64.toNat_ofNat']; omega⟩
theorem u8_of_wf {a : Int} (h : (Lit.int .u8 a).wf = true) : ∃ u : UInt8, a = u.toNat := by
  have h1 : 0 ≤ a ∧ a < 256 := by
    have := bounds_u8 h; omega
  exact ⟨UInt8.ofNat a.toNat, by rw [UInt8.toNat_ofNat']; omega⟩
theorem min_k (k : Int) (K : Nat) (hK : k = K) (n : Nat) : ∃ m : Nat, (if k < (n : Int) then k else (n : Int)) = (m : Int) ∧ m ≤ n ∧ m ≤ K ∧ (m = n ∨ m = K) := by
  subst hK
  by_cases h : (K : Int) < (n : Int)
  · exact ⟨K, by rw [if_pos h], by omega, by omega, .inr rfl⟩
  · exact ⟨n, by rw [if_neg h], by omega, by omega, .inl rfl⟩
theorem ext_size (a : ByteArray) (i j : Nat) : (a.extract i j).size = min j a.size - i := ByteArray.size_extract
theorem ext_data (a : ByteArray) (m : Nat) : (a.extract 0 m).data.toList = a.data.toList.take m := by
  simp [ByteArray.data_extract]
theorem app_data (a b : ByteArray) : (a ++ b).data.toList = a.data.toList ++ b.data.toList := by
  simp [ByteArray.data_append]
theorem app_size (a b : ByteArray) : (a ++ b).size = a.size + b.size := ByteArray.size_append
theorem min_n (a b : Nat) : ∃ m : Nat, (if b < a then (b : Int) else (a : Int)) = (m : Int) ∧ m ≤ a ∧ m ≤ b := by
  by_cases h : b < a
  · exact ⟨b, by rw [if_pos h], by omega, by omega⟩
  · exact ⟨a, by rw [if_neg h], by omega, by omega⟩
/-- A slice value of n elements that reads as the cells xs, below block B. -/
def Sl (w : World) (B size : Nat) (A : Option Addr) (n : Nat) (xs : List Value) : Prop :=
  xs.length = n * size ∧ (0 < n → ∃ b off, A = some ⟨b, off, none⟩ ∧ b < B ∧ ∀ j u, xs[j]? = some u → w.cell? ⟨b, off + j, none⟩ = some u)
theorem Sl.below {w w' : World} {B size : Nat} {A : Option Addr} {n : Nat} {xs : List Value} (h : Sl w B size A n xs) (hb : Below B w w') : Sl w' B size A n xs :=
  ⟨h.1, fun hn => by
    obtain ⟨b, off, e, hB, hc⟩ := h.2 hn
    exact ⟨b, off, e, hB, fun j u hu => (hb.cell (p := ⟨b, off + j, none⟩) hB).trans (hc j u hu)⟩⟩
theorem Sl.mono {w : World} {B B' size : Nat} {A : Option Addr} {n : Nat} {xs : List Value} (h : Sl w B size A n xs) (hb : B ≤ B') : Sl w B' size A n xs :=
  ⟨h.1, fun hn => by
    obtain ⟨b, off, e, hB, hc⟩ := h.2 hn
    exact ⟨b, off, e, by omega, hc⟩⟩
theorem below_undrew {B : Nat} {a w : World} (h : Below B a.drew w) : Below B a w := ⟨h.os, h.tape, h.output, h.size, h.block⟩
theorem own_below {w w' : World} {base : Nat} {e : TypeId} {size : Nat} {v : Value} {n : Nat} {xs : List Value} (h : w.ownsRow base e size v n xs) (hb : Below w.heap.size w w') : w'.ownsRow base e size v n xs := by
  refine ⟨h.1, ?_⟩
  rcases h.2 with h0 | ⟨g, cap, cur, hv, h1, h2, h3⟩
  · exact .inl h0
  · exact .inr ⟨g, cap, cur, hv, h1, (hb.block g (Array.getElem?_eq_some_iff.1 h2).1).trans h2, h3⟩
def strV (ss : List ByteArray) : List Value := ss.map Value.string
def u64V (l : List UInt64) : List Value := l.map fun x => Value.int .u64 x.toNat
theorem u64V_snoc (l : List UInt64) (x : UInt64) : u64V (l ++ [x]) = u64V l ++ [.int .u64 x.toNat] := by simp [u64V]
theorem u64V_get (l : List UInt64) (j : Nat) (h : j < l.length) : (u64V l)[j]? = some (.int .u64 (l.getD j 0).toNat) := by
  simp [u64V, h, List.getD]
def sliceLen : Value → Nat
  | .slice _ n _ => n
  | _ => 0
theorem own_same {w w' : World} {base : Nat} {e : TypeId} {size g n cap : Nat} {xs : List Value} (h : w.ownsRow base e size (.slice (some ⟨g, 0, none⟩) n cap) n xs) (hg : w'.heap[g]? = w.heap[g]?) : w'.ownsRow base e size (.slice (some ⟨g, 0, none⟩) n cap) n xs := by
  refine ⟨h.1, ?_⟩
  rcases h.2 with h0 | ⟨g', cap', cur, hv, h1, h2, h3⟩
  · exact .inl h0
  · have hgg : g' = g := by injection hv with hv; injection hv with hv; injection hv with hv; exact hv.symm
    subst hgg
    exact .inr ⟨g', cap', cur, hv, h1, hg.trans h2, h3⟩
theorem below_putObj {B : Nat} {a w : World} (h : Below B a w) (hB : B ≤ w.heap.size) {l : Nat} (hl : B ≤ l) (o : Obj) : Below B a (w.putObj l o) :=
  h.grown (grownBy_putObj' w l o) hB (fun k hk => by cases hk; exact hl)
theorem own_len {w : World} {base : Nat} {e : TypeId} {size : Nat} {v : Value} {n : Nat} {xs : List Value} (h : w.ownsRow base e size v n xs) : sliceLen v = n := by
  rcases h.2 with ⟨rfl, rfl⟩ | ⟨g, cap, cur, rfl, _⟩ <;> rfl
theorem bal {w W : World} (h : Below w.heap.size w W) (o : Obj) : Below w.heap.size w (W.alloc o) := h.alloc h.size o
theorem bgo {w W W' : World} (h : Below w.heap.size w W) (k : Below W.heap.size W W') : Below w.heap.size w W' := h.trans (k.mono h.size)
theorem Sl.go {W W' : World} {size n : Nat} {A : Option Addr} {xs : List Value} (h : Sl W W.heap.size size A n xs) (k : Below W.heap.size W W') : Sl W' W'.heap.size size A n xs := (h.below k).mono k.size
theorem Sl.al {W : World} {size n : Nat} {A : Option Addr} {xs : List Value} (h : Sl W W.heap.size size A n xs) (o : Obj) : Sl (W.alloc o) (W.alloc o).heap.size size A n xs := h.go (bal (Below.refl _ _) o)
theorem Sl.nil (W : World) (size : Nat) : Sl W W.heap.size size none 0 [] := ⟨by simp, fun h => absurd h (Nat.lt_irrefl 0)⟩
theorem addr_plain {W : World} {a : Addr} {u : Value} (h : W.cell? a = some u) : ∃ b off, a = ⟨b, off, none⟩ ∧ b < W.heap.size := by
  obtain ⟨b, off, sp⟩ := a
  unfold World.cell? at h
  cases hb : W.heap[b]? with
  | none => simp [hb] at h
  | some o =>
    have hlt := (Array.getElem?_eq_some_iff.1 hb).1
    cases o <;> simp [hb] at h
    obtain ⟨hs, _⟩ := h
    exact ⟨b, off, by rw [hs], hlt⟩
theorem sl_of_row {W : World} {a : Addr} {size n : Nat} {xs : List Value} (hl : xs.length = n * size) (h : 0 < n → 0 < size) (hc : ∀ j u, xs[j]? = some u → W.cell? (a.add j) = some u) : Sl W W.heap.size size (some a) n xs := by
  refine ⟨hl, fun hn => ?_⟩
  have h0 : 0 < xs.length := by rw [hl]; exact Nat.mul_pos hn (h hn)
  have e0 := hc 0 xs[0] (List.getElem?_eq_getElem h0)
  obtain ⟨b, off, e, hb⟩ := addr_plain e0
  obtain ⟨b', off', sp⟩ := a
  have e : (⟨b', off', sp⟩ : Addr) = ⟨b, off, none⟩ := e
  rw [e] at hc ⊢
  exact ⟨b, off, rfl, hb, fun j u h => by have := hc j u h; rwa [Addr.add_lit] at this⟩
theorem Sl.take {W : World} {B size n : Nat} {A : Option Addr} {xs : List Value} (h : Sl W B size A n xs) (k : Nat) (hk : k ≤ n) : Sl W B size A k (xs.take (k * size)) := by
  have hm : k * size ≤ n * size := Nat.mul_le_mul_right _ hk
  refine ⟨by rw [List.length_take, h.1]; omega, fun h0 => ?_⟩
  obtain ⟨b, off, e, hb, hc⟩ := h.2 (by omega)
  refine ⟨b, off, e, hb, fun j u hu => hc j u ?_⟩
  rw [List.getElem?_take] at hu
  split at hu
  · exact hu
  · cases hu
theorem Sl.drop {W : World} {B size n b off : Nat} {xs : List Value} (h : Sl W B size (some ⟨b, off, none⟩) n xs) (k : Nat) (hk : k < n) : Sl W B size (some ⟨b, off + k * size, none⟩) (n - k) (xs.drop (k * size)) := by
  refine ⟨by rw [List.length_drop, h.1, Nat.sub_mul], fun h0 => ?_⟩
  obtain ⟨b', off', e, hb, hc⟩ := h.2 (by omega)
  injection e with e
  injection e with e1 e2 e3
  subst e1 e2
  refine ⟨_, _, rfl, hb, fun j u hu => ?_⟩
  rw [List.getElem?_drop] at hu
  rw [Nat.add_assoc]
  exact hc _ u hu
theorem setCell_heap {w : World} {b j : Nat} {cs : Array Value} {t : TypeId} {fr : Nat × Nat} {v : Value} (hb : w.heap[b]? = some (.cells cs t fr)) : (w.setCell ⟨b, j, none⟩ v).heap[b]? = some (.cells (cs.setIfInBounds j v) t fr) := by
  simp [World.setCell, Array.getElem?_modify, hb]
def intAt (W : World) (B : Nat) : Int := match W.cell? ⟨B, 0, none⟩ with
  | some (.int _ n) => n
  | _ => 0
end Go.Proofs.YtgkilaafeconlaaDoor
