/- The walk of the law package's Case (layer 35). -/
import Derived.Test.YtgkilaafeconlaaDoorPsW9
namespace Go.Proofs.YtgkilaafeconlaaDoor
open Go.RowKit Go.Shelf
set_option linter.unusedVariables false
set_option linter.unusedSimpArgs false
set_option maxRecDepth 100000
def ds0 : List DeclD := [⟨⟨#[98, 97, 115, 105, 99]⟩, ⟨#[69, 85, 82]⟩, 1⟩, ⟨⟨#[117, 110, 105, 111, 110]⟩, ⟨#[69, 85, 82]⟩, 2⟩, ⟨⟨#[110, 111, 116, 101]⟩, ⟨#[69, 85, 82]⟩, 4⟩, ⟨⟨#[117, 115, 100]⟩, ⟨#[85, 83, 68]⟩, 1⟩]
def case0 (LA AA : Option Addr) : CaseM := ⟨.slice none 0 0, LA, 4, ds0, AA, 2, [12, 14], .slice none 0 0, .slice none 0 0, .slice none 0 0, .slice none 0 0, ⟨#[69, 85, 82]⟩, 0⟩
def CaseP (w : World) (e : Ending) (w' : World) : Prop := ∃ LA AA, e = .returned (caseV (case0 LA AA)) ∧ CaseOk w' (case0 LA AA) ∧ Below w.heap.size w w'
set_option maxHeartbeats 2000000 in
theorem case_any (w : World) : Calls Tryd.prog 10 #[] w (CaseP w) := by
  go_enter Tryd.func10, Tryd.ntmps10
  go_wp2
  obtain ⟨W, hW⟩ : ∃ W, W = ((w.alloc (.cells #[.slice none 0 0, .slice (some ⟨w.heap.size + 1, 0, none⟩) 4 4, .slice (some ⟨w.heap.size + 1 + 1, 0, none⟩) 2 2, .slice none 0 0, .slice none 0 0, .slice none 0 0, .slice none 0 0, .string ⟨#[69, 85, 82]⟩, .int .i64 0] 33)).alloc (.cells #[.string ⟨#[98, 97, 115, 105, 99]⟩, .string ⟨#[69, 85, 82]⟩, .int .i64 1, .string ⟨#[117, 110, 105, 111, 110]⟩, .string ⟨#[69, 85, 82]⟩, .int .i64 2, .string ⟨#[110, 111, 116, 101]⟩, .string ⟨#[69, 85, 82]⟩, .int .i64 4, .string ⟨#[117, 115, 100]⟩, .string ⟨#[85, 83, 68]⟩, .int .i64 1] 79)).alloc (.cells #[.int .i64 12, .int .i64 0, .int .i64 0, .int .i64 0, .int .i64 9000, .int .i64 0, .slice none 0 0, .slice none 0 0, .int .i64 0, .int .i64 0, .string ⟨#[]⟩, .int .i64 0, .slice none 0 0, .slice none 0 0, .int .i64 14, .int .i64 0, .int .i64 0, .int .i64 0, .int .i64 9000, .int .i64 0, .slice none 0 0, .slice none 0 0, .int .i64 0, .int .i64 0, .string ⟨#[]⟩, .int .i64 0, .slice none 0 0, .slice none 0 0] 87) := ⟨_, rfl⟩
  rw [← hW]
  have q0 : W.heap[w.heap.size]? = some (.cells #[.slice none 0 0, .slice (some ⟨w.heap.size + 1, 0, none⟩) 4 4, .slice (some ⟨w.heap.size + 1 + 1, 0, none⟩) 2 2, .slice none 0 0, .slice none 0 0, .slice none 0 0, .slice none 0 0, .string ⟨#[69, 85, 82]⟩, .int .i64 0] 33 (0, 0)) := by
    rw [hW]; exact (Below.heap_alloc _ _ _ (by simp; omega)).trans (heap_alloc2_old w _ _)
  have q1 : W.heap[w.heap.size + 1]? = some (.cells #[.string ⟨#[98, 97, 115, 105, 99]⟩, .string ⟨#[69, 85, 82]⟩, .int .i64 1, .string ⟨#[117, 110, 105, 111, 110]⟩, .string ⟨#[69, 85, 82]⟩, .int .i64 2, .string ⟨#[110, 111, 116, 101]⟩, .string ⟨#[69, 85, 82]⟩, .int .i64 4, .string ⟨#[117, 115, 100]⟩, .string ⟨#[85, 83, 68]⟩, .int .i64 1] 79 (0, 0)) := by
    rw [hW]; exact (Below.heap_alloc _ _ _ (by simp)).trans (heap_alloc2_new w _ _)
  have q2 : W.heap[w.heap.size + 1 + 1]? = some (.cells #[.int .i64 12, .int .i64 0, .int .i64 0, .int .i64 0, .int .i64 9000, .int .i64 0, .slice none 0 0, .slice none 0 0, .int .i64 0, .int .i64 0, .string ⟨#[]⟩, .int .i64 0, .slice none 0 0, .slice none 0 0, .int .i64 14, .int .i64 0, .int .i64 0, .int .i64 0, .int .i64 9000, .int .i64 0, .slice none 0 0, .slice none 0 0, .int .i64 0, .int .i64 0, .string ⟨#[]⟩, .int .i64 0, .slice none 0 0, .slice none 0 0] 87 (0, 0)) := by
    rw [hW]
    have := World.alloc_heap_new ((w.alloc (.cells #[.slice none 0 0, .slice (some ⟨w.heap.size + 1, 0, none⟩) 4 4, .slice (some ⟨w.heap.size + 1 + 1, 0, none⟩) 2 2, .slice none 0 0, .slice none 0 0, .slice none 0 0, .slice none 0 0, .string ⟨#[69, 85, 82]⟩, .int .i64 0] 33)).alloc (.cells #[.string ⟨#[98, 97, 115, 105, 99]⟩, .string ⟨#[69, 85, 82]⟩, .int .i64 1, .string ⟨#[117, 110, 105, 111, 110]⟩, .string ⟨#[69, 85, 82]⟩, .int .i64 2, .string ⟨#[110, 111, 116, 101]⟩, .string ⟨#[69, 85, 82]⟩, .int .i64 4, .string ⟨#[117, 115, 100]⟩, .string ⟨#[85, 83, 68]⟩, .int .i64 1] 79)) (.cells #[.int .i64 12, .int .i64 0, .int .i64 0, .int .i64 0, .int .i64 9000, .int .i64 0, .slice none 0 0, .slice none 0 0, .int .i64 0, .int .i64 0, .string ⟨#[]⟩, .int .i64 0, .slice none 0 0, .slice none 0 0, .int .i64 14, .int .i64 0, .int .i64 0, .int .i64 0, .int .i64 9000, .int .i64 0, .slice none 0 0, .slice none 0 0, .int .i64 0, .int .i64 0, .string ⟨#[]⟩, .int .i64 0, .slice none 0 0, .slice none 0 0] 87)
    rwa [show ((w.alloc (.cells #[.slice none 0 0, .slice (some ⟨w.heap.size + 1, 0, none⟩) 4 4, .slice (some ⟨w.heap.size + 1 + 1, 0, none⟩) 2 2, .slice none 0 0, .slice none 0 0, .slice none 0 0, .slice none 0 0, .string ⟨#[69, 85, 82]⟩, .int .i64 0] 33)).alloc (.cells #[.string ⟨#[98, 97, 115, 105, 99]⟩, .string ⟨#[69, 85, 82]⟩, .int .i64 1, .string ⟨#[117, 110, 105, 111, 110]⟩, .string ⟨#[69, 85, 82]⟩, .int .i64 2, .string ⟨#[110, 111, 116, 101]⟩, .string ⟨#[69, 85, 82]⟩, .int .i64 4, .string ⟨#[117, 115, 100]⟩, .string ⟨#[85, 83, 68]⟩, .int .i64 1] 79)).heap.size = w.heap.size + 1 + 1 by simp] at this
  have hB : Below w.heap.size w W := by rw [hW]; exact bal (bal (bal (Below.refl _ _) _) _) _
  have hsz : W.heap.size = w.heap.size + 3 := by rw [hW]; simp
  clear hW
  have c0 : W.cell? ⟨w.heap.size, 0, none⟩ = some (.slice none 0 0) := by rw [Lib.cell_of_heap q0]; rfl
  have c1 : W.cell? ⟨w.heap.size, 1, none⟩ = some (.slice (some ⟨w.heap.size + 1, 0, none⟩) 4 4) := by rw [Lib.cell_of_heap q0]; rfl
  have c2 : W.cell? ⟨w.heap.size, 2, none⟩ = some (.slice (some ⟨w.heap.size + 1 + 1, 0, none⟩) 2 2) := by rw [Lib.cell_of_heap q0]; rfl
  have c3 : W.cell? ⟨w.heap.size, 3, none⟩ = some (.slice none 0 0) := by rw [Lib.cell_of_heap q0]; rfl
  have c4 : W.cell? ⟨w.heap.size, 4, none⟩ = some (.slice none 0 0) := by rw [Lib.cell_of_heap q0]; rfl
  have c5 : W.cell? ⟨w.heap.size, 5, none⟩ = some (.slice none 0 0) := by rw [Lib.cell_of_heap q0]; rfl
  have c6 : W.cell? ⟨w.heap.size, 6, none⟩ = some (.slice none 0 0) := by rw [Lib.cell_of_heap q0]; rfl
  have c7 : W.cell? ⟨w.heap.size, 7, none⟩ = some (.string ⟨#[69, 85, 82]⟩) := by rw [Lib.cell_of_heap q0]; rfl
  have c8 : W.cell? ⟨w.heap.size, 8, none⟩ = some (.int .i64 0) := by rw [Lib.cell_of_heap q0]; rfl
  refine bodyPost_ret (v := caseV (case0 (some ⟨w.heap.size + 1, 0, none⟩) (some ⟨w.heap.size + 1 + 1, 0, none⟩))) (by simp [results, Tryd.results10, go_sem, c0, c1, c2, c3, c4, c5, c6, c7, c8, caseV, case0, ds0]) rfl ?_
  refine ⟨_, _, rfl, ⟨?_, ?_, ?_, ?_, ?_, ?_⟩, hB⟩
  · exact sl_cells q1 rfl rfl
  · intro _
    refine ⟨_, _, rfl, by omega, fun k hk => ?_⟩
    have hk2 : k < 2 := hk
    rcases (show k = 0 ∨ k = 1 by omega) with rfl | rfl
    · rw [Lib.cell_of_heap q2]; rfl
    · rw [Lib.cell_of_heap q2]; rfl
  · show 4 ≤ maxLen; decide
  · show 2 ≤ maxLen; decide
  · intro x hx
    have : x = 12 ∨ x = 14 := by simpa [case0] using hx
    unfold I64
    omega
  · intro d hd
    have hd' : d ∈ ds0 := hd
    unfold ds0 at hd'
    simp only [List.mem_cons, List.not_mem_nil, or_false] at hd'
    rcases hd' with rfl | rfl | rfl | rfl <;> (dsimp only; decide)
end Go.Proofs.YtgkilaafeconlaaDoor
