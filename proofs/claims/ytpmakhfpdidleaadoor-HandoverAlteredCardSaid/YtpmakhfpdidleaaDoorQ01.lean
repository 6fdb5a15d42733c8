/- Small facts that many walks use; no function of the program is named. The world behind strconv.Itoa; the table that it reads. The walks of package digest: what Sum, Pair, Text and Parse and their helpers compute, for every argument. -/
import Derived.Test.YtpmakhfpdidleaaDoorProg
import Derived.WalkKit
import Derived.WalkLawsBesides
import Derived.WalkSpells
import Derived.Outline
import Derived.Lib.Hide
import Derived.Handy
import Derived.BigQuiet
import Derived.Deep.QuietTactic
import Derived.OpenShut
import Derived.Deep.OwnRows
import Derived.OwnWalk
import Derived.Maps.AppendAt
import Derived.Deep.AppendLies
import Derived.RangeFuncBox
import Derived.RangeFuncRecord
import Derived.Shelf.Strings.Builder1
import Derived.Shelf.Strings.Builder2
import Derived.Shelf.Strings.OnBuilder
import Derived.Shelf.Strings.BuilderF
import Derived.Shelf.Strings.BuilderK
import Derived.Shelf.Strings.Builder2Cap
import Derived.Shelf.Strconv.Itoa0
import Derived.Shelf.Strconv.Itoa1
import Derived.Shelf.LaysM
import Derived.Shelf.Strconv.Itoa2
import Derived.Shelf.Strconv.Itoa3
import Derived.Shelf.Strings.BuilderCap
import Derived.Lib.LaidTab
import Derived.Lib.ItoaLen
import Derived.Laws.BitsAllLaws
namespace Go.Proofs.YtpmakhfpdidleaaDoor
open Go.RowKit
set_option linter.unusedVariables false
theorem bcell {W w1 : World} (hb : Below W.heap.size W w1) : (∀ b o, b < W.heap.size → w1.cell? ⟨b, o, none⟩ = W.cell? ⟨b, o, none⟩) ∧ (∀ b o, b < W.heap.size → w1.frozen? ⟨b, o, none⟩ = W.frozen? ⟨b, o, none⟩) :=
  ⟨fun b o h => hb.cell (p := ⟨b, o, none⟩) h, fun b o h => hb.frozen (p := ⟨b, o, none⟩) h⟩
theorem bt {a b c : World} (h : Below a.heap.size a b) (k : Below b.heap.size b c) : Below a.heap.size a c := h.trans (k.mono h.size)
theorem quiet_left {P : Program} {f : FuncId} {args : Array Value} {w : World} {n : Nat} {v : Value}
    (h : Calls P f args (w.drewN n) fun e w' => e = .returned v ∧ w.drewN n = w') : Calls P f args (w.drewN n) fun e w'' => e = .returned v ∧ ∃ m, w'' = w.drewN m :=
  h.mono fun _ _ ⟨he, hm⟩ => ⟨he, n, hm.symm⟩
theorem below_drewN {B : Nat} {a w : World} (h : Below B a w) (n : Nat) : Below B a (w.drewN n) := ⟨h.os, h.tape, h.output, h.size, h.block⟩
theorem cons_bytes (c : UInt8) (l : List UInt8) : ((⟨[c].toArray⟩ : ByteArray) ++ ⟨l.toArray⟩) = ⟨(c :: l).toArray⟩ := by
  apply ByteArray.ext; simp [ByteArray.data_append]
theorem byte_back (W : World) (B : Nat) (c : UInt8) (h : W.cell? ⟨B, 0, none⟩ = some (.int .u8 c.toNat)) : (convert 97 9 (.slice (some ⟨B, 0, none⟩) 1 1)).run Tryd.prog W = .ok (.string ⟨[c].toArray⟩) W := by
  refine run_convert_bytes_back (P := Tryd.prog) W 97 9 5 ⟨B, 0, none⟩ 1 [c] Tryd.underlying97 Tryd.underlying5 Tryd.underlying9 ?_
  intro j hj
  obtain rfl : j = 0 := by simpa using hj
  exact h
theorem u64_of_wf {a : Int} (h : (Lit.int .u64 a).wf = true) : ∃ u : UInt64, a = u.toNat := by
  have h1 : 0 ≤ a ∧ a < 18446744073709551616 := by
    have := bounds_u64 h; omega
  exact ⟨UInt64.ofNat a.toNat, by rw [UInt64.toNat_ofNat']; omega⟩
theorem u8_of_wf {a : Int} (h : (Lit.int .u8 a).wf = true) : ∃ u : UInt8, a = u.toNat := by
  have h1 : 0 ≤ a ∧ a < 256 := by
    have := bounds_u8 h; omega
  exact ⟨UInt8.ofNat a.toNat, by rw [UInt8.toNat_ofNat']; omega⟩
theorem min_k (k : Int) (K : Nat) (hK : k = K) (n : Nat) : ∃ m : Nat, (if k < (n : Int) then k else (n : Int)) = (m : Int) ∧ m ≤ n ∧ m ≤ K ∧ (m = n ∨ m = K) := by
  subst hK
  by_cases h : (K : Int) < (n : Int)
  · exact ⟨K, by rw [if_pos h], by omega, by omega, .inr rfl⟩
  · exact ⟨n, by rw [if_neg h], by omega, by omega, .inl rfl⟩
theorem ext_size (a : ByteArray) (i j : Nat) : (a.extract i j).size = min j a.size - i := ByteArray.size_extract
theorem ext_data (a : ByteArray) (m : Nat) : (a.extract 0 m).data.toList = a.data.toList.take m := by
  simp [ByteArray.data_extract]
theorem app_data (a b : ByteArray) : (a ++ b).data.toList = a.data.toList ++ b.data.toList := by
  simp [ByteArray.data_append]
theorem app_size (a b : ByteArray) : (a ++ b).size = a.size + b.size := ByteArray.size_append
theorem min_n (a b : Nat) : ∃ m : Nat, (if b < a then (b : Int) else (a : Int)) = (m : Int) ∧ m ≤ a ∧ m ≤ b := by
  by_cases h : b < a
  · exact ⟨b, by rw [if_pos h], by omega, by omega⟩
  · exact ⟨a, by rw [if_neg h], by omega, by omega⟩
/-- A slice value of n elements that reads as the cells xs, below block B. -/
def Sl (w : World) (B size : Nat) (A : Option Addr) (n : Nat) (xs : List Value) : Prop :=
  xs.length = n * size ∧ (0 < n → ∃ b off, A = some ⟨b, off, none⟩ ∧ b < B ∧ ∀ j u, xs[j]? = some u → w.cell? ⟨b, off + j, none⟩ = some u)
theorem Sl.below {w w' : World} {B size : Nat} {A : Option Addr} {n : Nat} {xs : List Value} (h : Sl w B size A n xs) (hb : Below B w w') : Sl w' B size A n xs :=
  ⟨h.1, fun hn => by
    obtain ⟨b, off, e, hB, hc⟩ := h.2 hn
    exact ⟨b, off, e, hB, fun j u hu => (hb.cell (p := ⟨b, off + j, none⟩) hB).trans (hc j u hu)⟩⟩
theorem Sl.mono {w : World} {B B' size : Nat} {A : Option Addr} {n : Nat} {xs : List Value} (h : Sl w B size A n xs) (hb : B ≤ B') : Sl w B' size A n xs :=
  ⟨h.1, fun hn => by
    obtain ⟨b, off, e, hB, hc⟩ := h.2 hn
    exact ⟨b, off, e, by omega, hc⟩⟩
theorem below_undrew {B : Nat} {a w : World} (h : Below B a.drew w) : Below B a w := ⟨h.os, h.tape, h.output, h.size, h.block⟩
theorem own_below {w w' : World} {base : Nat} {e : TypeId} {size : Nat} {v : Value} {n : Nat} {xs : List Value} (h : w.ownsRow base e size v n xs) (hb : Below w.heap.size w w') : w'.ownsRow base e size v n xs := by
  refine ⟨h.1, ?_⟩
  rcases h.2 with h0 | ⟨g, cap, cur, hv, h1, h2, h3⟩
  · exact .inl h0
  · exact .inr ⟨g, cap, cur, hv, h1, (hb.block g (Array.getElem?_eq_some_iff.1 h2).1).trans h2, h3⟩
def strV (ss : List ByteArray) : List Value := ss.map Value.string
def u64V (l : List UInt64) : List Value := l.map fun x => Value.int .u64 x.toNat
theorem u64V_snoc (l : List UInt64) (x : UInt64) : u64V (l ++ [x]) = u64V l ++ [.int .u64 x.toNat] := by simp [u64V]
theorem u64V_get (l : List UInt64) (j : Nat) (h : j < l.length) : (u64V l)[j]? = some (.int .u64 (l.getD j 0).toNat) := by
  simp [u64V, h, List.getD]
def sliceLen : Value → Nat
  | .slice _ n _ => n
  | _ => 0
theorem own_same {w w' : World} {base : Nat} {e : TypeId} {size g n cap : Nat} {xs : List Value} (h : w.ownsRow base e size (.slice (some ⟨g, 0, none⟩) n cap) n xs) (hg : w'.heap[g]? = w.heap[g]?) : w'.ownsRow base e size (.slice (some ⟨g, 0, none⟩) n cap) n xs := by
  refine ⟨h.1, ?_⟩
  rcases h.2 with h0 | ⟨g', cap', cur, hv, h1, h2, h3⟩
  · exact .inl h0
  · have hgg : g' = g := by injection hv with hv; injection hv with hv; injection hv with hv; exact hv.symm
    subst hgg
    exact .inr ⟨g', cap', cur, hv, h1, hg.trans h2, h3⟩
theorem below_putObj {B : Nat} {a w : World} (h : Below B a w) (hB : B ≤ w.heap.size) {l : Nat} (hl : B ≤ l) (o : Obj) : Below B a (w.putObj l o) :=
  h.grown (grownBy_putObj' w l o) hB (fun k hk => by cases hk; exact hl)
theorem own_len {w : World} {base : Nat} {e : TypeId} {size : Nat} {v : Value} {n : Nat} {xs : List Value} (h : w.ownsRow base e size v n xs) : sliceLen v = n := by
  rcases h.2 with ⟨rfl, rfl⟩ | ⟨g, cap, cur, rfl, _⟩ <;> rfl
theorem bal {w W : World} (h : Below w.heap.size w W) (o : Obj) : Below w.heap.size w (W.alloc o) := h.alloc h.size o
theorem bgo {w W W' : World} (h : Below w.heap.size w W) (k : Below W.heap.size W W') : Below w.heap.size w W' := h.trans (k.mono h.size)
theorem Sl.go {W W' : World} {size n : Nat} {A : Option Addr} {xs : List Value} (h : Sl W W.heap.size size A n xs) (k : Below W.heap.size W W') : Sl W' W'.heap.size size A n xs := (h.below k).mono k.size
theorem Sl.al {W : World} {size n : Nat} {A : Option Addr} {xs : List Value} (h : Sl W W.heap.size size A n xs) (o : Obj) : Sl (W.alloc o) (W.alloc o).heap.size size A n xs := h.go (bal (Below.refl _ _) o)
theorem Sl.nil (W : World) (size : Nat) : Sl W W.heap.size size none 0 [] := ⟨by simp, fun h => absurd h (Nat.lt_irrefl 0)⟩
theorem addr_plain {W : World} {a : Addr} {u : Value} (h : W.cell? a = some u) : ∃ b off, a = ⟨b, off, none⟩ ∧ b < W.heap.size := by
  obtain ⟨b, off, sp⟩ := a
  unfold World.cell? at h
  cases hb : W.heap[b]? with
  | none => simp [hb] at h
  | some o =>
    have hlt := (Array.getElem?_eq_some_iff.1 hb).1
    cases o <;> simp [hb] at h
    obtain ⟨hs, _⟩ := h
    exact ⟨b, off, by rw [hs], hlt⟩
theorem sl_of_row {W : World} {a : Addr} {size n : Nat} {xs : List Value} (hl : xs.length = n * size) (h : 0 < n → 0 < size) (hc : ∀ j u, xs[j]? = some u → W.cell? (a.add j) = some u) : Sl W W.heap.size size (some a) n xs := by
  refine ⟨hl, fun hn => ?_⟩
  have h0 : 0 < xs.length := by rw [hl]; exact Nat.mul_pos hn (h hn)
  have e0 := hc 0 xs[0] (List.getElem?_eq_getElem h0)
  obtain ⟨b, off, e, hb⟩ := addr_plain e0
  obtain ⟨b', off', sp⟩ := a
  have e : (⟨b', off', sp⟩ : Addr) = ⟨b, off, none⟩ := e
  rw [e] at hc ⊢
  exact ⟨b, off, rfl, hb, fun j u h => by have := hc j u h; rwa [Addr.add_lit] at this⟩
theorem Sl.take {W : World} {B size n : Nat} {A : Option Addr} {xs : List Value} (h : Sl W B size A n xs) (k : Nat) (hk : k ≤ n) : Sl W B size A k (xs.take (k * size)) := by
  have hm : k * size ≤ n * size := Nat.mul_le_mul_right _ hk
  refine ⟨by rw [List.length_take, h.1]; omega, fun h0 => ?_⟩
  obtain ⟨b, off, e, hb, hc⟩ := h.2 (by omega)
  refine ⟨b, off, e, hb, fun j u hu => hc j u ?_⟩
  rw [List.getElem?_take] at hu
  split at hu
  · exact hu
  · cases hu
theorem Sl.drop {W : World} {B size n b off : Nat} {xs : List Value} (h : Sl W B size (some ⟨b, off, none⟩) n xs) (k : Nat) (hk : k < n) : Sl W B size (some ⟨b, off + k * size, none⟩) (n - k) (xs.drop (k * size)) := by
  refine ⟨by rw [List.length_drop, h.1, Nat.sub_mul], fun h0 => ?_⟩
  obtain ⟨b', off', e, hb, hc⟩ := h.2 (by omega)
  injection e with e
  injection e with e1 e2 e3
  subst e1 e2
  refine ⟨_, _, rfl, hb, fun j u hu => ?_⟩
  rw [List.getElem?_drop] at hu
  rw [Nat.add_assoc]
  exact hc _ u hu
theorem setCell_heap {w : World} {b j : Nat} {cs : Array Value} {t : TypeId} {fr : Nat × Nat} {v : Value} (hb : w.heap[b]? = some (.cells cs t fr)) : (w.setCell ⟨b, j, none⟩ v).heap[b]? = some (.cells (cs.setIfInBounds j v) t fr) := by
  simp [World.setCell, Array.getElem?_modify, hb]
def intAt (W : World) (B : Nat) : Int := match W.cell? ⟨B, 0, none⟩ with
  | some (.int _ n) => n
  | _ => 0
end Go.Proofs.YtpmakhfpdidleaaDoor
/-
  DERIVED: THE SHELF's CONTRACTS AT THIS DUMP, IN PLAIN WORDS (tools/lay-plain.mjs out of 'YtpmakhfpdidleaaDoorShelfRaw.lean', which tools/lay-shelf.mjs wrote): THE SAME DECLARATIONS UNDER THE SAME NAMES: 'import', 'namespace', 'open', 'def', 'theorem' AND NOTHING ELSE: no command of the shelf's: FOR A HAND-IN. Each laying: the table of numbers ('.._ren') and one theorem, a field a fact of the dump's own or the kernel's comparison; each contract: ONE APPLICATION.
-/
namespace Go.Proofs
open Go.Shelf
def Tryd.lays169_ren : Go.Shelf.Ren := ⟨fun | 169 => 55 | n => n, fun | 70 => 96 | 9 => 9 | 0 => 0 | 72 => 99 | 37 => 97 | 127 => 125 | 3 => 3 | 5 => 5 | n => n, fun | n => n⟩
theorem Tryd.lays169 : Go.Proofs.Lays.n169 Tryd.prog Tryd.lays169_ren := {
  mixed := by kernel_rfl
  f169 := Tryd.func55.trans (congrArg some (by kernel_rfl))
  t0 := Tryd.underlying0
  a0 := Tryd.isAgg0
  z0 := Tryd.sizeOf0
  v0 := Tryd.zeroValue0
  t3 := Tryd.underlying3
  a3 := Tryd.isAgg3
  z3 := Tryd.sizeOf3
  v3 := Tryd.zeroValue3
  t9 := Tryd.underlying9
  a9 := Tryd.isAgg9
  z9 := Tryd.sizeOf9
  v9 := Tryd.zeroValue9
  t37 := Tryd.underlying97
  a37 := Tryd.isAgg97
  z37 := Tryd.sizeOf97
  v37 := Tryd.zeroValue97
  t70 := Tryd.underlying96
  a70 := Tryd.isAgg96
  z70 := Tryd.sizeOf96
  v70 := Tryd.zeroValue96
  t72 := Tryd.underlying99
  a72 := Tryd.isAgg99
  z72 := Tryd.sizeOf99
  v72 := Tryd.zeroValue99
  t127 := Tryd.underlying125
  a127 := Tryd.isAgg125
  z127 := Tryd.sizeOf125
  v127 := Tryd.zeroValue125 }
theorem Tryd.Builder_Extra_169 : Builder.Extra Tryd.prog Tryd.lays169_ren := {
  sizeBuilder := by kernel_rfl
  liesBuilder := by kernel_rfl
  t5 := Tryd.underlying5
  a5 := Tryd.isAgg5
  z5 := Tryd.sizeOf5
  v5 := Tryd.zeroValue5
  infoByte := by kernel_rfl
  cellsByte := by kernel_rfl
  sizeByte := by kernel_rfl
  neB5 := by decide }
open Go.RowKit in
/-- (*strings.Builder).String: "String returns the accumulated string.": WHATEVER THE BUILDER HOLDS. (LAID: no walk: one application.) -/
theorem Tryd.Builder_String_any (B b : Nat) (l : List UInt8) (w : World) (h : Lib.IsBuilder 99 5 B b (Lib.byteCells l) w) (hBw : B ≤ w.heap.size) :
    Calls Tryd.prog 55 #[.pointer (some ⟨b, 0, none⟩)] w fun e w' => e = .returned (.string ⟨l.toArray⟩) ∧ Below B w w' := Any.Builder_String_any Tryd.lays169 Tryd.Builder_Extra_169 B b l w h hBw
def Tryd.lays156_ren : Go.Shelf.Ren := ⟨fun | 156 => 39 | 165 => 63 | 166 => 52 | 169 => 55 | 240 => 71 | 241 => 75 | 276 => 87 | 277 => 90 | n => n, fun | 31 => 53 | 9 => 9 | 3 => 3 | 4 => 4 | 0 => 0 | 20 => 20 | 72 => 99 | 76 => 102 | 70 => 96 | 37 => 97 | 75 => 101 | 127 => 125 | 164 => 137 | 5 => 5 | 80 => 104 | n => n, fun | n => n⟩
theorem Tryd.lays156 : Go.Proofs.Lays.n156 Tryd.prog Tryd.lays156_ren := {
  mixed := by kernel_rfl
  f156 := Tryd.func39.trans (congrArg some (by kernel_rfl))
  f165 := Tryd.func63.trans (congrArg some (by kernel_rfl))
  f166 := Tryd.func52.trans (congrArg some (by kernel_rfl))
  f169 := Tryd.func55.trans (congrArg some (by kernel_rfl))
  f240 := Tryd.func71.trans (congrArg some (by kernel_rfl))
  f241 := Tryd.func75.trans (congrArg some (by kernel_rfl))
  f276 := Tryd.func87.trans (congrArg some (by kernel_rfl))
  f277 := Tryd.func90.trans (congrArg some (by kernel_rfl))
  t0 := Tryd.underlying0
  a0 := Tryd.isAgg0
  z0 := Tryd.sizeOf0
  v0 := Tryd.zeroValue0
  t3 := Tryd.underlying3
  a3 := Tryd.isAgg3
  z3 := Tryd.sizeOf3
  v3 := Tryd.zeroValue3
  t4 := Tryd.underlying4
  a4 := Tryd.isAgg4
  z4 := Tryd.sizeOf4
  v4 := Tryd.zeroValue4
  t9 := Tryd.underlying9
  a9 := Tryd.isAgg9
  z9 := Tryd.sizeOf9
  v9 := Tryd.zeroValue9
  t20 := Tryd.underlying20
  a20 := Tryd.isAgg20
  z20 := Tryd.sizeOf20
  v20 := Tryd.zeroValue20
  t31 := Tryd.underlying53
  a31 := Tryd.isAgg53
  z31 := Tryd.sizeOf53
  v31 := Tryd.zeroValue53
  t37 := Tryd.underlying97
  a37 := Tryd.isAgg97
  z37 := Tryd.sizeOf97
  v37 := Tryd.zeroValue97
  t70 := Tryd.underlying96
  a70 := Tryd.isAgg96
  z70 := Tryd.sizeOf96
  v70 := Tryd.zeroValue96
  t72 := Tryd.underlying99
  a72 := Tryd.isAgg99
  z72 := Tryd.sizeOf99
  v72 := Tryd.zeroValue99
  t75 := Tryd.underlying101
  a75 := Tryd.isAgg101
  z75 := Tryd.sizeOf101
  v75 := Tryd.zeroValue101
  t76 := Tryd.underlying102
  a76 := Tryd.isAgg102
  z76 := Tryd.sizeOf102
  v76 := Tryd.zeroValue102
  t127 := Tryd.underlying125
  a127 := Tryd.isAgg125
  z127 := Tryd.sizeOf125
  v127 := Tryd.zeroValue125
  t164 := Tryd.underlying137
  a164 := Tryd.isAgg137
  z164 := Tryd.sizeOf137
  v164 := Tryd.zeroValue137 }
theorem Tryd.Builder_Extra_156 : Builder.Extra Tryd.prog Tryd.lays156_ren := {
  sizeBuilder := by kernel_rfl
  liesBuilder := by kernel_rfl
  t5 := Tryd.underlying5
  a5 := Tryd.isAgg5
  z5 := Tryd.sizeOf5
  v5 := Tryd.zeroValue5
  infoByte := by kernel_rfl
  cellsByte := by kernel_rfl
  sizeByte := by kernel_rfl
  neB5 := by decide }
open Go.RowKit in
/-- No element: the empty string; the world is as it was. (Whatever the slice's address and capacity: a nil slice too.) (LAID: no walk: one application.) -/
theorem Tryd.strings_Join_none (a : Option Addr) (c : Nat) (sep : ByteArray) (w : World) :
    Calls Tryd.prog 39 #[.slice a 0 c, .string sep] w fun e w' => e = .returned (.string ⟨#[]⟩) ∧ w' = w := Any.strings_Join_none Tryd.lays156 Tryd.Builder_Extra_156 a c sep w
open Go.RowKit in
/-- strings.Join: "Join concatenates the elements of its first argument to create a single string. The separator string sep is placed between elements in the resulting string.": HOWEVER MANY ELEMENTS. Below the heap's end the world is as it was. (LAID: no walk: one application.) -/
theorem Tryd.strings_Join (bk o c : Nat) (xs : List ByteArray) (sep : ByteArray) (w : World) (hcells : ∀ (j : Nat) x, xs[j]? = some x → w.cell? ⟨bk, o + j, none⟩ = some (.string x)) (hbk : bk < w.heap.size) (hN : xs.length ≤ 140737488355328) (hcap : xs.length ≤ c) (hlen : (Lib.join (xs.map (·.data.toList)) sep.data.toList).length ≤ 140737488355328) :
    Calls Tryd.prog 39 #[.slice (some ⟨bk, o, none⟩) xs.length c, .string sep] w fun e w' => e = .returned (.string ⟨(Lib.join (xs.map (·.data.toList)) sep.data.toList).toArray⟩) ∧ Below w.heap.size w w' := Any.strings_Join Tryd.lays156 Tryd.Builder_Extra_156 bk o c xs sep w hcells hbk hN hcap hlen
def Tryd.laysM171_ren : Go.Shelf.Ren := ⟨fun | 171 => 22 | 243 => 40 | 246 => 64 | 283 => 76 | 284 => 77 | 285 => 78 | 286 => 79 | 129 => 92 | 317 => 91 | 318 => 93 | 319 => 94 | 320 => 95 | 337 => 97 | 338 => 98 | n => n, fun | 3 => 3 | 9 => 9 | 2 => 2 | 4 => 4 | 171 => 127 | 0 => 0 | 53 => 28 | 37 => 97 | 5 => 5 | 173 => 130 | 212 => 143 | 51 => 144 | 20 => 20 | 213 => 145 | 46 => 59 | 232 => 151 | 233 => 152 | n => n, fun | 17 => 2 | 18 => 4 | 19 => 5 | n => n⟩
theorem Tryd.laysM171 : Go.Proofs.LaysM.n171 Tryd.prog Tryd.laysM171_ren := {
  mixed := by kernel_rfl
  f129 := Tryd.func92.trans (congrArg some (by kernel_rfl))
  f171 := Tryd.func22.trans (congrArg some (by kernel_rfl))
  f243 := Tryd.func40.trans (congrArg some (by kernel_rfl))
  f246 := Tryd.func64.trans (congrArg some (by kernel_rfl))
  f283 := Tryd.func76.trans (congrArg some (by kernel_rfl))
  f284 := Tryd.func77.trans (congrArg some (by kernel_rfl))
  f285 := Tryd.func78.trans (congrArg some (by kernel_rfl))
  f286 := Tryd.func79.trans (congrArg some (by kernel_rfl))
  f317 := Tryd.func91.trans (congrArg some (by kernel_rfl))
  f318 := Tryd.func93.trans (congrArg some (by kernel_rfl))
  f319 := Tryd.func94.trans (congrArg some (by kernel_rfl))
  f320 := Tryd.func95.trans (congrArg some (by kernel_rfl))
  f337 := Tryd.func97.trans (congrArg some (by kernel_rfl))
  f338 := Tryd.func98.trans (congrArg some (by kernel_rfl))
  t0 := Tryd.underlying0
  a0 := Tryd.isAgg0
  z0 := Tryd.sizeOf0
  v0 := Tryd.zeroValue0
  t2 := Tryd.underlying2
  a2 := Tryd.isAgg2
  z2 := Tryd.sizeOf2
  v2 := Tryd.zeroValue2
  t3 := Tryd.underlying3
  a3 := Tryd.isAgg3
  z3 := Tryd.sizeOf3
  v3 := Tryd.zeroValue3
  t4 := Tryd.underlying4
  a4 := Tryd.isAgg4
  z4 := Tryd.sizeOf4
  v4 := Tryd.zeroValue4
  t5 := Tryd.underlying5
  a5 := Tryd.isAgg5
  z5 := Tryd.sizeOf5
  v5 := Tryd.zeroValue5
  t9 := Tryd.underlying9
  a9 := Tryd.isAgg9
  z9 := Tryd.sizeOf9
  v9 := Tryd.zeroValue9
  t20 := Tryd.underlying20
  a20 := Tryd.isAgg20
  z20 := Tryd.sizeOf20
  v20 := Tryd.zeroValue20
  t37 := Tryd.underlying97
  a37 := Tryd.isAgg97
  z37 := Tryd.sizeOf97
  v37 := Tryd.zeroValue97
  t46 := Tryd.underlying59
  a46 := Tryd.isAgg59
  z46 := Tryd.sizeOf59
  v46 := Tryd.zeroValue59
  t51 := Tryd.underlying144
  a51 := Tryd.isAgg144
  z51 := Tryd.sizeOf144
  v51 := Tryd.zeroValue144
  t53 := Tryd.underlying28
  a53 := Tryd.isAgg28
  z53 := Tryd.sizeOf28
  v53 := Tryd.zeroValue28
  t171 := Tryd.underlying127
  a171 := Tryd.isAgg127
  z171 := Tryd.sizeOf127
  v171 := Tryd.zeroValue127
  t173 := Tryd.underlying130
  a173 := Tryd.isAgg130
  z173 := Tryd.sizeOf130
  v173 := Tryd.zeroValue130
  t212 := Tryd.underlying143
  a212 := Tryd.isAgg143
  z212 := Tryd.sizeOf143
  v212 := Tryd.zeroValue143
  t213 := Tryd.underlying145
  a213 := Tryd.isAgg145
  z213 := Tryd.sizeOf145
  t232 := Tryd.underlying151
  a232 := Tryd.isAgg151
  z232 := Tryd.sizeOf151
  v232 := Tryd.zeroValue151
  t233 := Tryd.underlying152
  a233 := Tryd.isAgg152
  z233 := Tryd.sizeOf152
  v233 := Tryd.zeroValue152
  g17 := by kernel_rfl
  g18 := by kernel_rfl
  g19 := by kernel_rfl
  i0 := by kernel_rfl
  i2 := by kernel_rfl
  i3 := by kernel_rfl
  i4 := by kernel_rfl
  i5 := by kernel_rfl
  i9 := by kernel_rfl
  i20 := by kernel_rfl
  i37 := by kernel_rfl
  i46 := by kernel_rfl
  i51 := by kernel_rfl
  i53 := by kernel_rfl
  i171 := by kernel_rfl
  i173 := by kernel_rfl
  i212 := by kernel_rfl
  i232 := by kernel_rfl
  i233 := by kernel_rfl
  m17 := by kernel_rfl
  m18 := by kernel_rfl
  m19 := by kernel_rfl }
open Go.RowKit Go.Sort Go.Lib in
/-- strconv.Itoa: "Itoa is equivalent to FormatInt(int64(i), 10).": i's DECIMAL NUMERAL ('Lib.itoa': a '-' where i is negative, then the digits), FOR EVERY int. The world behind the call: the world before it, new blocks behind the heap (the library's 'var a [24]byte'), draws. (LAID: no walk: one application.) -/
theorem Tryd.strconv_Itoa (n : Int) (h0 : -9223372036854775808 ≤ n) (h1 : n ≤ 9223372036854775807) (w : World) (htab : Lib.TabIs Tryd.prog w "internal/strconv.uint64pow10" .u64 Lib.pow10Tab) :
    Calls Tryd.prog 22 #[.int .i64 n] w fun e w' => e = .returned (.string ⟨(Lib.itoa n).toArray⟩) ∧ ∃ k os, w' = grow (w.drewN k) os := Any.strconv_Itoa Tryd.laysM171 n h0 h1 w htab
def Tryd.lays171_ren : Go.Shelf.Ren := ⟨fun | 171 => 22 | 243 => 40 | 246 => 64 | 283 => 76 | 284 => 77 | 285 => 78 | 286 => 79 | 129 => 92 | 317 => 91 | 318 => 93 | 319 => 94 | 320 => 95 | 337 => 97 | 338 => 98 | n => n, fun | 3 => 3 | 9 => 9 | 2 => 2 | 4 => 4 | 171 => 127 | 0 => 0 | 53 => 28 | 37 => 97 | 5 => 5 | 173 => 130 | 212 => 143 | 51 => 144 | 20 => 20 | 213 => 145 | 46 => 59 | 232 => 151 | 233 => 152 | n => n, fun | 17 => 2 | 18 => 4 | 19 => 5 | n => n⟩
theorem Tryd.lays171 : Go.Proofs.Lays.n171 Tryd.prog Tryd.lays171_ren := {
  mixed := by kernel_rfl
  f129 := Tryd.func92.trans (congrArg some (by kernel_rfl))
  f171 := Tryd.func22.trans (congrArg some (by kernel_rfl))
  f243 := Tryd.func40.trans (congrArg some (by kernel_rfl))
  f246 := Tryd.func64.trans (congrArg some (by kernel_rfl))
  f283 := Tryd.func76.trans (congrArg some (by kernel_rfl))
  f284 := Tryd.func77.trans (congrArg some (by kernel_rfl))
  f285 := Tryd.func78.trans (congrArg some (by kernel_rfl))
  f286 := Tryd.func79.trans (congrArg some (by kernel_rfl))
  f317 := Tryd.func91.trans (congrArg some (by kernel_rfl))
  f318 := Tryd.func93.trans (congrArg some (by kernel_rfl))
  f319 := Tryd.func94.trans (congrArg some (by kernel_rfl))
  f320 := Tryd.func95.trans (congrArg some (by kernel_rfl))
  f337 := Tryd.func97.trans (congrArg some (by kernel_rfl))
  f338 := Tryd.func98.trans (congrArg some (by kernel_rfl))
  t0 := Tryd.underlying0
  a0 := Tryd.isAgg0
  z0 := Tryd.sizeOf0
  v0 := Tryd.zeroValue0
  t2 := Tryd.underlying2
  a2 := Tryd.isAgg2
  z2 := Tryd.sizeOf2
  v2 := Tryd.zeroValue2
  t3 := Tryd.underlying3
  a3 := Tryd.isAgg3
  z3 := Tryd.sizeOf3
  v3 := Tryd.zeroValue3
  t4 := Tryd.underlying4
  a4 := Tryd.isAgg4
  z4 := Tryd.sizeOf4
  v4 := Tryd.zeroValue4
  t5 := Tryd.underlying5
  a5 := Tryd.isAgg5
  z5 := Tryd.sizeOf5
  v5 := Tryd.zeroValue5
  t9 := Tryd.underlying9
  a9 := Tryd.isAgg9
  z9 := Tryd.sizeOf9
  v9 := Tryd.zeroValue9
  t20 := Tryd.underlying20
  a20 := Tryd.isAgg20
  z20 := Tryd.sizeOf20
  v20 := Tryd.zeroValue20
  t37 := Tryd.underlying97
  a37 := Tryd.isAgg97
  z37 := Tryd.sizeOf97
  v37 := Tryd.zeroValue97
  t46 := Tryd.underlying59
  a46 := Tryd.isAgg59
  z46 := Tryd.sizeOf59
  v46 := Tryd.zeroValue59
  t51 := Tryd.underlying144
  a51 := Tryd.isAgg144
  z51 := Tryd.sizeOf144
  v51 := Tryd.zeroValue144
  t53 := Tryd.underlying28
  a53 := Tryd.isAgg28
  z53 := Tryd.sizeOf28
  v53 := Tryd.zeroValue28
  t171 := Tryd.underlying127
  a171 := Tryd.isAgg127
  z171 := Tryd.sizeOf127
  v171 := Tryd.zeroValue127
  t173 := Tryd.underlying130
  a173 := Tryd.isAgg130
  z173 := Tryd.sizeOf130
  v173 := Tryd.zeroValue130
  t212 := Tryd.underlying143
  a212 := Tryd.isAgg143
  z212 := Tryd.sizeOf143
  v212 := Tryd.zeroValue143
  t213 := Tryd.underlying145
  a213 := Tryd.isAgg145
  z213 := Tryd.sizeOf145
  t232 := Tryd.underlying151
  a232 := Tryd.isAgg151
  z232 := Tryd.sizeOf151
  v232 := Tryd.zeroValue151
  t233 := Tryd.underlying152
  a233 := Tryd.isAgg152
  z233 := Tryd.sizeOf152
  v233 := Tryd.zeroValue152
  g17 := by kernel_rfl
  g18 := by kernel_rfl
  g19 := by kernel_rfl }
open Go.RowKit Go.Sort Go.Lib in
/-- THE ROAD WITHOUT THE TABLE: 0 <= i < 100: NO PREMISE ON THE WORLD, AND THE WORLD IS AS IT WAS: a row that keeps its argument in that range need list no table ('laid = []'). (LAID: no walk: one application.) -/
theorem Tryd.strconv_Itoa_small (i : Nat) (hi : i < 100) (w : World) :
    Calls Tryd.prog 22 #[.int .i64 i] w fun e w' => e = .returned (.string ⟨(Lib.decDigits i).toArray⟩) ∧ w' = w := Any.strconv_Itoa_small Tryd.lays171 i hi w
end Go.Proofs
namespace Go.Proofs.YtpmakhfpdidleaaDoor
open Go.RowKit Go.Sort
theorem below_grow {w : World} (k : Nat) (os : Array Obj) : Below w.heap.size w (grow (w.drewN k) os) := by
  refine ⟨rfl, rfl, rfl, ?_, ?_⟩
  · simp [grow]
  · intro b hb
    exact Array.getElem?_append_left hb
theorem tabIs_go {P : Program} {W W' : World} {name : String} {k : IntKind} {zs : List Int} (h : Lib.TabIs P W name k zs) (hb : Below W.heap.size W W') : Lib.TabIs P W' name k zs := by
  unfold Lib.TabIs World.var? at h ⊢
  cases hg : P.globalNamed name with
  | none => rw [hg] at h; cases h
  | some g =>
    rw [hg] at h
    simp only [Option.bind_some] at h ⊢
    cases ho : W.heap[g]? with
    | none => rw [ho] at h; cases h
    | some o =>
      have := hb.block g (Array.getElem?_eq_some_iff.1 ho).1
      rw [this]
      exact h
/-- The table of powers of ten lies in the world. -/
def PTab (w : World) : Prop := Lib.TabIs Tryd.prog w "internal/strconv.uint64pow10" .u64 Lib.pow10Tab
theorem PTab.go {w w' : World} (h : PTab w) (hb : Below w.heap.size w w') : PTab w' := tabIs_go h hb
theorem itoa_any (n : Int) (h0 : -9223372036854775808 ≤ n) (h1 : n ≤ 9223372036854775807) (t : ByteArray) (ht : Hid ((⟨(Lib.itoa n).toArray⟩ : ByteArray) = t)) (w : World) (hT : PTab w) :
    Calls Tryd.prog 22 #[.int .i64 n] w fun e w' => e = .returned (.string t) ∧ Below w.heap.size w w' := by
  refine (Tryd.strconv_Itoa n h0 h1 w hT).mono ?_
  rintro e w' ⟨rfl, k, os, rfl⟩
  exact ⟨by rw [ht.out], below_grow k os⟩
def itoaB (n : Int) : ByteArray := ⟨(Lib.itoa n).toArray⟩
theorem itoaB_size (n : Int) (h0 : -9223372036854775808 ≤ n) (h1 : n ≤ 9223372036854775807) : (itoaB n).size ≤ 21 := by
  have := Lib.itoa_length_le n h0 h1
  show (Lib.itoa n).toArray.size ≤ 21
  simpa using this
end Go.Proofs.YtpmakhfpdidleaaDoor
namespace Go.Dig
/-! plain digest -/
def feed (s : UInt64) (b : UInt8) : UInt64 := ((s ^^^ b.toUInt64) * (1099511628211 : UInt64)) ^^^ (((s ^^^ b.toUInt64) * (1099511628211 : UInt64)) >>> 32)
def init : UInt64 := 2611923443488327891
def state (l : List UInt8) : UInt64 := l.foldl feed init
def stepA (s : UInt64) : UInt64 := (s ^^^ (s >>> 31)) * 13787848793156543929
def stepB (s : UInt64) : UInt64 := (s ^^^ (s >>> 27)) * 10723151780598845931
def stepC (s : UInt64) : UInt64 := s ^^^ (s >>> 33)
def finish (s : UInt64) (n : UInt64) : UInt64 := stepC (stepB (stepA (s ^^^ n)))
def sum (l : List UInt8) : UInt64 := finish (state l) (UInt64.ofNat l.length)

theorem xs_inj (k : Nat) (hk : 0 < k) (hk' : k < 64) (x y : UInt64) (h : x ^^^ (x >>> UInt64.ofNat k) = y ^^^ (y >>> UInt64.ofNat k)) : x = y := by
  have h' := congrArg UInt64.toNat h
  simp only [UInt64.toNat_xor, UInt64.toNat_shiftRight] at h'
  have e : (UInt64.ofNat k).toNat % 64 = k := by simp; omega
  rw [e] at h'
  have z : (x.toNat ^^^ y.toNat) ^^^ ((x.toNat ^^^ y.toNat) >>> k) = 0 := by
    rw [Nat.shiftRight_xor_distrib]
    calc x.toNat ^^^ y.toNat ^^^ (x.toNat >>> k ^^^ y.toNat >>> k) = (x.toNat ^^^ x.toNat >>> k) ^^^ (y.toNat ^^^ y.toNat >>> k) := by ac_rfl
      _ = 0 := by rw [h', Nat.xor_self]
  have z2 : (x.toNat ^^^ y.toNat) = ((x.toNat ^^^ y.toNat) >>> k) := by
    have := congrArg (fun t => t ^^^ ((x.toNat ^^^ y.toNat) >>> k)) z
    simpa [Nat.xor_assoc] using this
  have z3 : x.toNat ^^^ y.toNat = 0 := by
    rw [Nat.shiftRight_eq_div_pow] at z2
    rcases Nat.eq_zero_or_pos (x.toNat ^^^ y.toNat) with h0 | h0
    · exact h0
    · have : (x.toNat ^^^ y.toNat) / 2 ^ k < x.toNat ^^^ y.toNat := Nat.div_lt_self h0 (by exact Nat.one_lt_two_pow (by omega))
      omega
  apply UInt64.toNat_inj.1
  have := congrArg (fun t => t ^^^ y.toNat) z3
  simpa [Nat.xor_assoc] using this

theorem mul_inj (c d x y : UInt64) (hc : c * d = 1) (h : x * c = y * c) : x = y := by
  have := congrArg (· * d) h
  simpa [UInt64.mul_assoc, hc] using this

theorem xor_inj (x y n : UInt64) (h : x ^^^ n = y ^^^ n) : x = y := by
  have := congrArg (· ^^^ n) h
  simpa [UInt64.xor_assoc] using this
theorem feed_inj_s (s t : UInt64) (b : UInt8) (h : feed s b = feed t b) : s = t := by
  have h1 := xs_inj 32 (by decide) (by decide) _ _ h
  exact xor_inj _ _ _ (mul_inj _ 14886173955864302971 _ _ (by decide) h1)
theorem xor_inj_r (x y n : UInt64) (h : n ^^^ x = n ^^^ y) : x = y := by
  rw [UInt64.xor_comm n x, UInt64.xor_comm n y] at h; exact xor_inj _ _ _ h
theorem feed_inj_b (s : UInt64) (a b : UInt8) (h : feed s a = feed s b) : a = b := by
  have h1 := xs_inj 32 (by decide) (by decide) _ _ h
  have h2 := xor_inj_r _ _ _ (mul_inj _ 14886173955864302971 _ _ (by decide) h1)
  have := congrArg UInt64.toNat h2
  simp at this
  exact UInt8.toNat_inj.1 this
theorem finish_inj (s t n : UInt64) (h : finish s n = finish t n) : s = t := by
  have h1 := xs_inj 33 (by decide) (by decide) _ _ h
  have h2 := mul_inj _ 3573116690164977347 _ _ (by decide) h1
  have h3 := xs_inj 27 (by decide) (by decide) _ _ h2
  have h4 := mul_inj _ 10871156337175269513 _ _ (by decide) h3
  have h5 := xs_inj 31 (by decide) (by decide) _ _ h4
  exact xor_inj _ _ _ h5
theorem fold_inj (l : List UInt8) (s t : UInt64) (h : l.foldl feed s = l.foldl feed t) : s = t := by
  induction l generalizing s t with
  | nil => exact h
  | cons a l ih => exact feed_inj_s _ _ a (ih _ _ h)
def byte (d : UInt64) (k : Nat) : UInt8 := UInt8.ofNat (d.toNat / 256 ^ k)
def be8 (d : UInt64) : List UInt8 := [byte d 7, byte d 6, byte d 5, byte d 4, byte d 3, byte d 2, byte d 1, byte d 0]
def pair (a b : UInt64) : UInt64 := sum (1 :: (be8 a ++ be8 b))
theorem byte_toNat (d : UInt64) (k : Nat) : (byte d k).toNat = d.toNat / 256 ^ k % 256 := by simp [byte]
def hexd (n : Nat) : UInt8 := if n < 10 then UInt8.ofNat (48 + n) else UInt8.ofNat (87 + n)
def dig (d : UInt64) (k : Nat) : UInt8 := hexd (d.toNat / 16 ^ k % 16)
def text (d : UInt64) : List UInt8 := [dig d 15, dig d 14, dig d 13, dig d 12, dig d 11, dig d 10, dig d 9, dig d 8, dig d 7, dig d 6, dig d 5, dig d 4, dig d 3, dig d 2, dig d 1, dig d 0]
def unhex (c : UInt8) : Option Nat := if 48 ≤ c ∧ c ≤ 57 then some (c.toNat - 48) else if 97 ≤ c ∧ c ≤ 102 then some (c.toNat - 87) else none
def unhexTo (c : UInt8) : Nat → Int
  | 0 => -1
  | j + 1 => if hexd j = c then j else unhexTo c j
def unhexI (c : UInt8) : Int := match unhex c with
  | none => -1
  | some v => v
def parseL : List UInt8 → UInt64 → Option UInt64
  | [], d => some d
  | c :: l, d => match unhex c with
    | none => none
    | some v => parseL l (d * 16 + UInt64.ofNat v)
def parse (l : List UInt8) : Option UInt64 := if l.length = 16 then parseL l 0 else none
def pv (l : List UInt8) : UInt64 := (parse l).getD 0
def pe (l : List UInt8) : Int := if (parse l).isSome then 0 else 12
theorem unhexTo_16 (c : UInt8) : unhexTo c 16 = unhexI c := by
  have h : ∀ n : Fin 256, unhexTo (UInt8.ofNat n.val) 16 = unhexI (UInt8.ofNat n.val) := by decide +kernel
  have := h ⟨c.toNat, c.toNat_lt⟩
  simpa using this
theorem unhex_lt (c : UInt8) (v : Nat) (h : unhex c = some v) : v < 16 := by
  unfold unhex at h
  have := c.toNat_lt
  split at h
  · rename_i h1; have := UInt8.le_iff_toNat_le.1 h1.1; have := UInt8.le_iff_toNat_le.1 h1.2; simp at *; omega
  · split at h
    · rename_i h1; have := UInt8.le_iff_toNat_le.1 h1.1; have := UInt8.le_iff_toNat_le.1 h1.2; simp at *; omega
    · cases h
theorem parseL_append (l : List UInt8) (c : UInt8) (d : UInt64) : parseL (l ++ [c]) d = match parseL l d with
    | none => none
    | some e => match unhex c with
      | none => none
      | some v => some (e * 16 + UInt64.ofNat v) := by
  induction l generalizing d with
  | nil => simp only [List.nil_append, parseL]
  | cons a l ih =>
    simp only [List.cons_append, parseL]
    cases unhex a with
    | none => rfl
    | some v => exact ih _
theorem parseL_none (l m : List UInt8) (d : UInt64) (h : parseL l d = none) : parseL (l ++ m) d = none := by
  induction l generalizing d with
  | nil => simp [parseL] at h
  | cons a l ih =>
    simp only [List.cons_append, parseL] at h ⊢
    cases hu : unhex a with
    | none => rfl
    | some v => rw [hu] at h; exact ih _ h
def btail (d : UInt64) : Nat → List UInt8
  | 0 => []
  | k + 1 => byte d k :: btail d k
def ttail (d : UInt64) : Nat → List UInt8
  | 0 => []
  | k + 1 => dig d k :: ttail d k
theorem btail_8 (d : UInt64) : btail d 8 = be8 d := rfl
theorem ttail_16 (d : UInt64) : ttail d 16 = text d := rfl
theorem btail_len (d : UInt64) (k : Nat) : (btail d k).length = k := by induction k with
  | zero => rfl
  | succ k ih => simp [btail, ih]
theorem ttail_len (d : UInt64) (k : Nat) : (ttail d k).length = k := by induction k with
  | zero => rfl
  | succ k ih => simp [ttail, ih]
theorem sum_one (l t : List UInt8) (k : Nat) (hk : k < l.length) (c : UInt8) : sum (l ++ t) = sum ((l.take k ++ c :: l.drop (k + 1)) ++ t) ↔ l[k] = c := by
  have hl : l.take k ++ l[k] :: l.drop (k + 1) = l := by
    rw [← List.drop_eq_getElem_cons hk, List.take_append_drop]
  have hlen : ((l.take k ++ c :: l.drop (k + 1)) ++ t).length = (l ++ t).length := by simp; omega
  constructor
  · intro h
    have h0 : sum ((l.take k ++ l[k] :: l.drop (k + 1)) ++ t) = sum ((l.take k ++ c :: l.drop (k + 1)) ++ t) := by rw [hl]; exact h
    generalize l[k] = b at h0 ⊢
    have hlen2 : ((l.take k ++ b :: l.drop (k + 1)) ++ t).length = ((l.take k ++ c :: l.drop (k + 1)) ++ t).length := by simp
    generalize l.take k = p at h0 hlen2
    generalize l.drop (k + 1) = q at h0 hlen2
    unfold sum at h0
    rw [hlen2] at h0
    have h1 := finish_inj _ _ _ h0
    unfold state at h1
    simp only [List.foldl_append, List.foldl_cons] at h1
    exact feed_inj_b _ _ _ (fold_inj _ _ _ (fold_inj _ _ _ h1))
  · intro h
    rw [← h, hl]
theorem beq_uu (a b : UInt64) : (((a.toNat : Int) == (b.toNat : Int)) = decide (a = b)) := by
  rw [Bool.eq_iff_iff, beq_iff_eq, decide_eq_true_iff]
  exact ⟨fun h => UInt64.toNat_inj.1 (by omega), fun h => by rw [h]⟩
theorem beq_bb (a b : UInt8) : (((a.toNat : Int) == (b.toNat : Int)) = decide (a = b)) := by
  rw [Bool.eq_iff_iff, beq_iff_eq, decide_eq_true_iff]
  exact ⟨fun h => UInt8.toNat_inj.1 (by omega), fun h => by rw [h]⟩
theorem one_law (l t : List UInt8) (k : Nat) (hk : k < l.length) (c : UInt8) : (((sum (l ++ t)).toNat : Int) == ((sum ((l.take k ++ c :: l.drop (k + 1)) ++ t)).toNat : Int)) = ((l[k].toNat : Int) == (c.toNat : Int)) := by
  rw [beq_uu, beq_bb, decide_eq_decide]
  exact sum_one l t k hk c
theorem ext_from (a : ByteArray) (i j : Nat) : (a.extract i j).data.toList = (a.data.toList.take j).drop i := by
  simp [ByteArray.data_extract, List.drop_take]
theorem ext_get (a : ByteArray) (m k : Nat) (h : k < (a.extract 0 m).size) (h2 : k < (a.data.toList.take m).length) : (a.extract 0 m)[k] = (a.data.toList.take m)[k] := by
  rw [ByteArray.getElem_eq_getElem_data]
  simp [ByteArray.data_extract]
end Go.Dig
namespace Go.Proofs.YtpmakhfpdidleaaDoor
open Go.RowKit

theorem u64_xor_uu (a b : UInt64) : bits .xor .u64 (a.toNat : Int) (b.toNat : Int) = ((a ^^^ b).toNat : Int) := by
  rw [u64_xor_nat _ _ a.toNat_lt b.toNat_lt, UInt64.toNat_xor]
theorem u64_mul_k (a : UInt64) (c : Nat) : IntKind.u64.wrap ((a.toNat : Int) * (c : Int)) = ((a * UInt64.ofNat c).toNat : Int) := by
  rw [IntKind.wrap_u64, UInt64.toNat_mul, UInt64.toNat_ofNat', Int.natCast_emod, Int.natCast_mul, Int.natCast_emod]
  show (a.toNat : Int) * (c : Int) % 18446744073709551616 = (a.toNat : Int) * ((c : Int) % 18446744073709551616) % 18446744073709551616
  rw [Int.mul_emod, Int.mul_emod (a.toNat : Int) ((c : Int) % _), Int.emod_emod]
theorem u64_mul_feed (a : UInt64) : IntKind.u64.wrap ((a.toNat : Int) * (1099511628211 : Int)) = ((a * 1099511628211).toNat : Int) := u64_mul_k a 1099511628211
theorem u64_mul_first (a : UInt64) : IntKind.u64.wrap ((a.toNat : Int) * (13787848793156543929 : Int)) = ((a * 13787848793156543929).toNat : Int) := u64_mul_k a 13787848793156543929
theorem u64_mul_second (a : UInt64) : IntKind.u64.wrap ((a.toNat : Int) * (10723151780598845931 : Int)) = ((a * 10723151780598845931).toNat : Int) := u64_mul_k a 10723151780598845931
theorem u64_shr_k (a : UInt64) (k : Nat) (hk : k < 64) : (a.toNat : Int) / ((2 ^ k : Nat) : Int) = ((a >>> UInt64.ofNat k).toNat : Int) := by
  rw [UInt64.toNat_shiftRight, Nat.shiftRight_eq_div_pow, UInt64.toNat_ofNat', Nat.mod_eq_of_lt (a := k) (by omega), Nat.mod_eq_of_lt hk]; rfl
theorem u64_shr_32 (a : UInt64) : (a.toNat : Int) / (4294967296 : Int) = ((a >>> 32).toNat : Int) := u64_shr_k a 32 (by decide)
theorem u64_shr_31 (a : UInt64) : (a.toNat : Int) / (2147483648 : Int) = ((a >>> 31).toNat : Int) := u64_shr_k a 31 (by decide)
theorem u64_shr_27 (a : UInt64) : (a.toNat : Int) / (134217728 : Int) = ((a >>> 27).toNat : Int) := u64_shr_k a 27 (by decide)
theorem u64_shr_33 (a : UInt64) : (a.toNat : Int) / (8589934592 : Int) = ((a >>> 33).toNat : Int) := u64_shr_k a 33 (by decide)
theorem u64_of_u8 (b : UInt8) : IntKind.u64.wrap (b.toNat : Int) = (b.toUInt64.toNat : Int) := by
  rw [IntKind.wrap_u64, UInt8.toNat_toUInt64]; have := b.toNat_lt; omega
theorem u64_of_nat (n : Nat) : IntKind.u64.wrap (n : Int) = ((UInt64.ofNat n).toNat : Int) := by
  rw [IntKind.wrap_u64, UInt64.toNat_ofNat']; omega

theorem u64_xor_un (a : UInt64) (n : Nat) (h : n < 18446744073709551616) : bits .xor .u64 (a.toNat : Int) (n : Int) = ((a ^^^ UInt64.ofNat n).toNat : Int) := by
  rw [← u64_xor_uu, UInt64.toNat_ofNat', Nat.mod_eq_of_lt h]
theorem feed_any (s : UInt64) (b : UInt8) (w : World) : Calls Tryd.prog 80 #[.int .u64 s.toNat, .int .u8 b.toNat] w fun e w' => e = .returned (.int .u64 (Dig.feed s b).toNat) ∧ w = w' := by
  go_enter Tryd.func80, Tryd.ntmps80
  go_wp2
  go_ret
  simp only [u64_of_u8, u64_xor_uu, u64_mul_feed, u64_shr_32]
  exact ⟨rfl, trivial⟩
theorem first_any (s : UInt64) (w : World) : Calls Tryd.prog 81 #[.int .u64 s.toNat] w fun e w' => e = .returned (.int .u64 (Dig.stepA s).toNat) ∧ w = w' := by
  go_enter Tryd.func81, Tryd.ntmps81
  go_wp2
  go_ret
  simp only [u64_shr_31, u64_xor_uu, u64_mul_first]
  exact ⟨rfl, trivial⟩
theorem second_any (s : UInt64) (w : World) : Calls Tryd.prog 82 #[.int .u64 s.toNat] w fun e w' => e = .returned (.int .u64 (Dig.stepB s).toNat) ∧ w = w' := by
  go_enter Tryd.func82, Tryd.ntmps82
  go_wp2
  go_ret
  simp only [u64_shr_27, u64_xor_uu, u64_mul_second]
  exact ⟨rfl, trivial⟩
theorem take_snoc (s : ByteArray) (k : Nat) (h : k < s.size) : s.data.toList.take (k + 1) = s.data.toList.take k ++ [s[k]] := by
  rw [List.take_succ_eq_append_getElem (by simpa using h)]; rfl
set_option maxHeartbeats 400000 in
theorem sum_any (s : ByteArray) (w : World) (hs : s.size ≤ maxLen) : Calls Tryd.prog 65 #[.string s] w fun e w' => e = .returned (.int .u64 (Dig.sum s.data.toList).toNat) ∧ w = w' := by
  unfold maxLen at hs
  go_enter Tryd.func65, Tryd.ntmps65
  go_wp2
  go_loop [3, 8] (fun v i => ∃ k : Nat, k ≤ s.size ∧ i = .int .i64 k ∧ v = .int .u64 ((s.data.toList.take k).foldl Dig.feed Dig.init).toNat) (fun _ i => s.size - (intOf i).toNat)
  case atStart => exact ⟨0, Nat.zero_le _, rfl, rfl⟩
  case round =>
    obtain ⟨k, hk, rfl, rfl⟩ := hrel
    by_cases hlt : k < s.size
    · have HS := Lib.hid (take_snoc s k hlt)
      go_wp2_with (go_at_call 80; refine (feed_any _ _ _).mono ?_; rintro e w' ⟨rfl, rfl⟩)
      go_round
      case rel => exact ⟨k + 1, by omega, by go_num, by rw [HS.out, List.foldl_append]; rfl⟩
      case measure => simp [intOf]; omega
    · have hE : s.data.toList.take k = s.data.toList := List.take_of_length_le (by simp; omega)
      have HE := Lib.hid hE
      clear hE
      go_wp2_with fail
      rw [u64_xor_un _ s.size (by omega)]
      refine (first_any _ _).mono ?_
      rintro e w' ⟨rfl, rfl⟩
      go_wp2_with fail
      refine (second_any _ _).mono ?_
      rintro e w' ⟨rfl, rfl⟩
      go_wp2_with fail
      go_ret
      simp only [u64_shr_33, u64_xor_uu, HE.out]
      exact ⟨rfl, trivial⟩
end Go.Proofs.YtpmakhfpdidleaaDoor
