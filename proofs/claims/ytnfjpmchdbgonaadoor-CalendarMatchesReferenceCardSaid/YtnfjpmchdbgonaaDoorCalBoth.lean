/- The program and its reference, side by side: one result for both, for any argument. -/
import Derived.Test.YtnfjpmchdbgonaaDoorCalR4
namespace Go.Proofs.YtnfjpmchdbgonaaDoor
open Go.RowKit Go.Sort
set_option linter.unusedVariables false
theorem down {P : Program} {f : FuncId} {args : Array Value} {w : World} {r : Ending} (h : Calls P f args w fun e w' => e = r ∧ w = w') : Calls P f args w fun e w' => e = r ∧ Below w.heap.size w w' :=
  h.mono (by rintro e w' ⟨rfl, rfl⟩; exact ⟨rfl, Below.refl _ _⟩)
theorem valid_cases (n : Int) : validB n = false ∨ ∃ k M : Nat, n = (k : Int) ∧ k < 36525 ∧ Cal.InM k M := by
  cases h : validB n with
  | false => exact .inl rfl
  | true =>
    right
    have h' := of_decide_eq_true h
    obtain ⟨M, hM⟩ := Cal.exists_month n.toNat (by omega)
    exact ⟨n.toNat, M, by omega, by omega, hM⟩
theorem both_date (n : Int) : ∃ y m d : Int, (∀ w, BTab w → Calls Tryd.prog 11 #[.int .i64 n] w fun e w' => e = .returned (.tuple #[.int .i64 y, .int .i64 m, .int .i64 d]) ∧ Below w.heap.size w w') ∧ (∀ w, Calls Tryd.prog 12 #[.int .i64 n] w fun e w' => e = .returned (.tuple #[.int .i64 y, .int .i64 m, .int .i64 d]) ∧ w = w') := by
  rcases valid_cases n with h | ⟨k, M, rfl, hk, hM⟩
  · exact ⟨0, 0, 0, fun w hT => date_no n h w, fun w => rdate_no n h w⟩
  · exact ⟨_, _, _, fun w hT => date_at k M _ _ _ hM rfl rfl rfl w hT, fun w => rdate_ok k M _ _ _ hM rfl rfl rfl w⟩
theorem both_later (n mo : Int) : ∃ i e : Int, (∀ w, BTab w → Calls Tryd.prog 13 #[.int .i64 n, .int .i64 mo] w fun r w' => r = .returned (.tuple #[.int .i64 i, .int .i64 e]) ∧ Below w.heap.size w w') ∧ (∀ w, Calls Tryd.prog 14 #[.int .i64 n, .int .i64 mo] w fun r w' => r = .returned (.tuple #[.int .i64 i, .int .i64 e]) ∧ w = w') := by
  rcases valid_cases n with h | ⟨k, M, rfl, hk, hM⟩
  · exact ⟨0, 21, fun w hT => later_bad n mo (.inl h) w, fun w => rlater_bad n mo h w⟩
  · by_cases h1 : mo < -1199 ∨ 1199 < mo
    · exact ⟨0, 21, fun w hT => later_bad _ mo (.inr h1) w, fun w => rlater_bad2 k M mo hM h1 w⟩
    · by_cases h2 : (M : Int) + mo < 0 ∨ 1199 < (M : Int) + mo
      · exact ⟨0, 21, fun w hT => later_out k M mo hM (by omega) (by omega) h2 w hT, fun w => rlater_out k M mo hM (by omega) (by omega) h2 w⟩
      · exact ⟨_, 0, fun w hT => later_ok k M ((M : Int) + mo).toNat _ mo hM (by omega) (by omega) (by omega) (by omega) rfl w hT, fun w => rlater_ok k M ((M : Int) + mo).toNat _ mo hM (by omega) (by omega) (by omega) (by omega) rfl w⟩
theorem both_weekday (n : Int) : ∃ v : Int, (∀ w, Calls Tryd.prog 15 #[.int .i64 n] w fun e w' => e = .returned (.int .i64 v) ∧ w = w') ∧ (∀ w, Calls Tryd.prog 16 #[.int .i64 n] w fun e w' => e = .returned (.int .i64 v) ∧ w = w') := by
  rcases valid_cases n with h | ⟨k, M, rfl, hk, hM⟩
  · exact ⟨0, fun w => weekday_no n h w, fun w => rweekday_no n h w⟩
  · exact ⟨_, fun w => weekday_ok k hk _ rfl w, fun w => rweekday_ok k hk _ rfl w⟩
theorem both_month (n : Int) : ∃ v : Int, (∀ w, BTab w → Calls Tryd.prog 17 #[.int .i64 n] w fun e w' => e = .returned (.int .i64 v) ∧ Below w.heap.size w w') ∧ (∀ w, Calls Tryd.prog 18 #[.int .i64 n] w fun e w' => e = .returned (.int .i64 v) ∧ w = w') := by
  rcases valid_cases n with h | ⟨k, M, rfl, hk, hM⟩
  · exact ⟨-1, fun w hT => month_no n h w, fun w => rmonth_no n h w⟩
  · exact ⟨_, fun w hT => month_ok k M hM w hT, fun w => rmonth_ok k M hM w⟩
theorem both_text (n : Int) : ∃ t : ByteArray, (∀ w, Tabs w → Calls Tryd.prog 19 #[.int .i64 n] w fun e w' => e = .returned (.string t) ∧ Below w.heap.size w w') ∧ (∀ w, Calls Tryd.prog 20 #[.int .i64 n] w fun e w' => e = .returned (.string t) ∧ Below w.heap.size w w') := by
  rcases valid_cases n with h | ⟨k, M, rfl, hk, hM⟩
  · exact ⟨⟨#[]⟩, fun w hT => text_no n h w, fun w => rtext_no n h w⟩
  · exact ⟨_, fun w hT => textI k M _ _ rfl hM rfl w hT, fun w => rtext_ok k M _ _ rfl hM rfl w⟩
theorem both_first (m : Int) : ∃ v : Int, (∀ w, BTab w → Calls Tryd.prog 21 #[.int .i64 m] w fun e w' => e = .returned (.int .i64 v) ∧ Below w.heap.size w w') ∧ (∀ w, Calls Tryd.prog 22 #[.int .i64 m] w fun e w' => e = .returned (.int .i64 v) ∧ w = w') := by
  by_cases h : m < 0 ∨ 1199 < m
  · exact ⟨-1, fun w hT => first_no m h w, fun w => rfirst_no m h w⟩
  · obtain ⟨k, rfl⟩ : ∃ k : Nat, m = (k : Int) := ⟨m.toNat, by omega⟩
    exact ⟨_, fun w hT => first_ok k (by omega) w hT, fun w => rfirst_ok k _ (by omega) rfl w⟩
theorem both_length (m : Int) : ∃ v : Int, (∀ w, BTab w → Calls Tryd.prog 23 #[.int .i64 m] w fun e w' => e = .returned (.int .i64 v) ∧ Below w.heap.size w w') ∧ (∀ w, Calls Tryd.prog 24 #[.int .i64 m] w fun e w' => e = .returned (.int .i64 v) ∧ w = w') := by
  by_cases h : m < 0 ∨ 1199 < m
  · exact ⟨0, fun w hT => length_no m h w, fun w => rlength_no m h w⟩
  · obtain ⟨k, rfl⟩ : ∃ k : Nat, m = (k : Int) := ⟨m.toNat, by omega⟩
    exact ⟨_, fun w hT => length_ok k (by omega) w hT, fun w => rlength_ok k _ (by omega) rfl w⟩
end Go.Proofs.YtnfjpmchdbgonaaDoor
