/- The world behind strconv.Itoa; the table that it reads. -/
import Derived.Test.YtgkilaafeconlaaDoorBase
import Derived.Test.YtgkilaafeconlaaDoorShelf
import Derived.Lib.LaidTab
import Derived.Lib.ItoaLen
namespace Go.Proofs.YtgkilaafeconlaaDoor
open Go.RowKit Go.Sort
theorem below_grow {w : World} (k : Nat) (os : Array Obj) : Below w.heap.size w (grow (w.drewN k) os) := by
  refine ⟨rfl, rfl, rfl, ?_, ?_⟩
  · simp [grow]
  · intro b hb
    exact Array.getElem?_append_left hb
theorem tabIs_go {P : Program} {W W' : World} {name : String} {k : IntKind} {zs : List Int} (h : Lib.TabIs P W name k zs) (hb : Below W.heap.size W W') : Lib.TabIs P W' name k zs := by
  unfold Lib.TabIs World.var? at h ⊢
  cases hg : P.globalNamed name with
  | none => rw [hg] at h; cases h
  | some g =>
    rw [hg] at h
    simp only [Option.bind_some] at h ⊢
    cases ho : W.heap[g]? with
    | none => rw [ho] at h; cases h
    | some o =>
      have := hb.block g (Array.getElem?_eq_some_iff.1 ho).1
      rw [this]
      exact h
/-- The table of powers of ten lies in the world. -/
def PTab (w : World) : Prop := Lib.TabIs Tryd.prog w "internal/strconv.uint64pow10" .u64 Lib.pow10Tab
theorem PTab.go {w w' : World} (h : PTab w) (hb : Below w.heap.size w w') : PTab w' := tabIs_go h hb
theorem itoa_any (n : Int) (h0 : -9223372036854775808 ≤ n) (h1 : n ≤ 9223372036854775807) (t : ByteArray) (ht : Hid ((⟨(Lib.itoa n).toArray⟩ : ByteArray) = t)) (w : World) (hT : PTab w) :
    Calls Tryd.prog 36 #[.int .i64 n] w fun e w' => e = .returned (.string t) ∧ Below w.heap.size w w' := by
  refine (Tryd.strconv_Itoa n h0 h1 w hT).mono ?_
  rintro e w' ⟨rfl, k, os, rfl⟩
  exact ⟨by rw [ht.out], below_grow k os⟩
def itoaB (n : Int) : ByteArray := ⟨(Lib.itoa n).toArray⟩
theorem itoaB_size (n : Int) (h0 : -9223372036854775808 ≤ n) (h1 : n ≤ 9223372036854775807) : (itoaB n).size ≤ 21 := by
  have := Lib.itoa_length_le n h0 h1
  show (Lib.itoa n).toArray.size ≤ 21
  simpa using this
end Go.Proofs.YtgkilaafeconlaaDoor
