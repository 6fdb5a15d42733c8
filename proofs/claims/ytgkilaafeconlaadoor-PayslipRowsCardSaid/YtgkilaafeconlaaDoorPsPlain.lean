/- Plain facts behind the fixed example of layer 35: powers by squaring; the example's blinding numbers and roots. -/
import Derived.Test.YtgkilaafeconlaaDoorPsCase
namespace Go.Proofs.YtgkilaafeconlaaDoor
set_option linter.unusedVariables false
set_option maxRecDepth 100000
/-- A power modulo p, by squaring. -/
def pwF : Nat → Nat → Nat → Nat → Nat
  | 0, r, b, e => r * b ^ e % Grp.P
  | f + 1, r, b, e => if e = 0 then r % Grp.P else pwF f (if e % 2 = 1 then r * b % Grp.P else r) (b * b % Grp.P) (e / 2)
theorem pwF_eq : ∀ (f r b e : Nat), pwF f r b e = r * b ^ e % Grp.P
  | 0, _, _, _ => rfl
  | f + 1, r, b, e => by
    rw [pwF]
    by_cases h : e = 0
    · rw [if_pos h, h, Nat.pow_zero, Nat.mul_one]
    · rw [if_neg h, pwF_eq f]
      exact Grp.step_pw r b e
def comF (v b : Int) : Int := if 0 ≤ b ∧ b < 1073741789 then ((pwF 31 1 4 v.toNat * pwF 31 1 9 b.toNat % Grp.P : Nat) : Int) else 0
theorem comF_eq (v b : Int) : comI v b = comF v b := by
  unfold comI comF
  split
  · unfold commitI pwI
    rw [pwF_eq, pwF_eq, Nat.one_mul, Nat.one_mul]
    show (_ : Int) * _ % ((Grp.P : Nat) : Int) = _
    rw [← Int.natCast_mul, ← Int.natCast_emod]
    rfl
  · rfl
def leafF (rows : List RowD) (bl : List Int) (k : Nat) : List ByteArray := (List.range k).map fun j => leafB (rows.getD j default).l (comF ((rows.getD j default).c % 1073741789) (bl.getD j 0)) (rows.getD j default).r
theorem leafF_eq (rows : List RowD) (bl : List Int) (k : Nat) : leafK rows bl k = leafF rows bl k := by
  unfold leafK leafF leafAt
  simp only [comF_eq]
def annB : ByteArray := ⟨#[97, 110, 110]⟩
def seedX : ByteArray := ⟨#[115, 101, 101, 100]⟩
def reason0 : ByteArray := ⟨#[118, 101, 114, 115, 105, 111, 110, 32, 49, 32, 111, 102, 32, 97, 114, 116, 105, 99, 108, 101, 32, 49, 52, 32, 111, 110, 32, 50, 48, 50, 52, 45, 48, 51, 45, 48, 53, 59, 32, 102, 97, 99, 116, 115, 32, 51, 32, 55, 59, 32, 118, 101, 114, 115, 105, 111, 110, 115, 32, 45]⟩
def R1 : List RowD := [⟨⟨#[98, 97, 115, 105, 99]⟩, 500, reason0⟩, ⟨⟨#[103, 114, 111, 115, 115]⟩, 500, ⟨#[115, 117, 109]⟩⟩, ⟨⟨#[116, 97, 120]⟩, 50, ⟨#[116, 97, 120]⟩⟩, ⟨⟨#[100, 101, 100, 117, 99, 116]⟩, 0, ⟨#[115, 117, 109]⟩⟩, ⟨⟨#[102, 108, 111, 111, 114]⟩, 0, ⟨#[115, 117, 109]⟩⟩, ⟨⟨#[110, 101, 116]⟩, 450, ⟨#[114, 101, 115, 116]⟩⟩]
def bl1 : List Int := [400441750, 659531598, 839774760, 130167609, 316657696, 492852368]
def bl2 : List Int := [400441751, 659531598, 839774760, 130167609, 316657696, 492852368]
theorem bl1_eq : blindL annB 290 seedX 6 = bl1 := by decide +kernel
theorem root_ne : (rootV (leafK R1 bl2 6) == rootV (leafK R1 bl1 6)) = false := by
  rw [leafF_eq, leafF_eq]
  decide +kernel
end Go.Proofs.YtgkilaafeconlaaDoor
