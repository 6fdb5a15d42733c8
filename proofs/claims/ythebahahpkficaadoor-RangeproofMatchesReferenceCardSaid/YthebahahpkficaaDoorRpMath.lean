/- The proofs of bits in plain words: what Prove, right, Verify and Extract compute, and the laws of it. -/
import Derived.Test.YthebahahpkficaaDoorGrpMath3
import Derived.Test.YthebahahpkficaaDoorDigMath
import Derived.Lib.ItoaNum
namespace Go.Proofs.YthebahahpkficaaDoor
set_option linter.unusedVariables false
structure BP where
  c : Int
  f0 : Int
  f1 : Int
  e0 : Int
  e1 : Int
  z0 : Int
  z1 : Int
def inFB (n : Int) : Bool := decide (0 ≤ n) && decide (n < 1073741789)
def divI (c i : Int) : Int := c * pwI (pwI 4 1073741788) i % 2147483579
theorem divI_bd (c i : Int) : 0 ≤ divI c i ∧ divI c i < 2147483579 := by unfold divI; omega
def sideB (c f e z i : Int) : Bool := inFB e && (inFB z && (pwI 9 z == f * pwI (divI c i) e % 2147483579))
def rightB (p : BP) : Bool := (elB p.c && (elB p.f0 && elB p.f1)) && (sideB p.c p.f0 p.e0 p.z0 0 && sideB p.c p.f1 p.e1 p.z1 1)
def chText (c f0 f1 : Int) : List UInt8 := [99, 32] ++ (Lib.itoa c ++ [32] ++ Lib.itoa f0 ++ [32] ++ Lib.itoa f1)
def modQ (d : UInt64) : Int := ((d.toNat % 1073741789 : Nat) : Int)
theorem modQ_bd (d : UInt64) : 0 ≤ modQ d ∧ modQ d < 1073741789 := by unfold modQ; omega
def chalI (c f0 f1 : Int) : Int := modQ (Dig.sum (chText c f0 f1))
theorem chalI_bd (c f0 f1 : Int) : 0 ≤ chalI c f0 f1 ∧ chalI c f0 f1 < 1073741789 := modQ_bd _
def validB (p : BP) : Bool := rightB p && ((p.e0 + p.e1) % 1073741789 == chalI p.c p.f0 p.f1)
/-- The product of the powers. -/
def prodI (f : Nat → Int) : Nat → Int
  | 0 => 1
  | k + 1 => prodI f k * pwI (f k) ((2 ^ k : Nat) : Int) % 2147483579
theorem prodI_bd (f : Nat → Int) (k : Nat) : 0 ≤ prodI f k ∧ prodI f k < 2147483579 := by
  cases k with
  | zero => simp only [prodI]; omega
  | succ k => simp only [prodI]; omega
theorem prodI_congr (f g : Nat → Int) : ∀ n, (∀ j, j < n → f j = g j) → prodI f n = prodI g n
  | 0, _ => rfl
  | n + 1, h => by simp only [prodI]; rw [prodI_congr f g n (fun j hj => h j (by omega)), h n (by omega)]
def zeroBP : BP := ⟨0, 0, 0, 0, 0, 0, 0⟩
def cAt (l : List BP) (k : Nat) : Int := (l.getD k zeroBP).c
def verifyB (commit bits : Int) (l : List BP) : Bool := (decide (1 ≤ bits) && decide (bits ≤ 28) && decide ((l.length : Int) = bits)) && (l.all validB && (prodI (cAt l) l.length == commit))
def rnText (seed : List UInt8) (i k : Int) : List UInt8 := seed ++ [32] ++ (Lib.itoa i ++ [32] ++ Lib.itoa k)
def rndI (seed : List UInt8) (i k : Int) : Int := modQ (Dig.sum (rnText seed i k))
theorem rndI_bd (seed : List UInt8) (i k : Int) : 0 ≤ rndI seed i k ∧ rndI seed i k < 1073741789 := modQ_bd _
/-- The first message of the other bit. -/
def otherF (c o e z : Int) : Int := pwI 9 z * pwI (pwI (divI c o) 1073741788) e % 2147483579
theorem otherF_bd (c o e z : Int) : 0 ≤ otherF c o e z ∧ otherF c o e z < 2147483579 := by unfold otherF; omega
def ownE (c f0 f1 e : Int) : Int := (chalI c f0 f1 - e) % 1073741789
def ownZ (k eb b : Int) : Int := (k + eb * b) % 1073741789
def bit0P (b k e z : Int) : BP :=
  ⟨commitI 0 b, pwI 9 k, otherF (commitI 0 b) 1 e z, ownE (commitI 0 b) (pwI 9 k) (otherF (commitI 0 b) 1 e z) e, e, ownZ k (ownE (commitI 0 b) (pwI 9 k) (otherF (commitI 0 b) 1 e z) e) b, z⟩
def bit1P (b k e z : Int) : BP :=
  ⟨commitI 1 b, otherF (commitI 1 b) 0 e z, pwI 9 k, e, ownE (commitI 1 b) (otherF (commitI 1 b) 0 e z) (pwI 9 k) e, z, ownZ k (ownE (commitI 1 b) (otherF (commitI 1 b) 0 e z) (pwI 9 k) e) b⟩
def bitP (bit : Nat) (b k e z : Int) : BP := if bit = 0 then bit0P b k e z else bit1P b k e z
def restI (seed : List UInt8) (blind : Int) : Nat → Int
  | 0 => blind
  | j + 1 => if j = 0 then blind else (restI seed blind j - rndI seed j 0 * ((2 ^ j : Nat) : Int) % 1073741789) % 1073741789
theorem restI_bd (seed : List UInt8) (blind : Int) (h0 : 0 ≤ blind) (h1 : blind < 1073741789) (n : Nat) : 0 ≤ restI seed blind n ∧ restI seed blind n < 1073741789 := by
  cases n with
  | zero => exact ⟨h0, h1⟩
  | succ n =>
    simp only [restI]
    split
    · exact ⟨h0, h1⟩
    · omega
def blindAt (seed : List UInt8) (blind : Int) (n j : Nat) : Int := if j = 0 then restI seed blind n else rndI seed j 0
def proofAt (value : Nat) (seed : List UInt8) (blind : Int) (n j : Nat) : BP := bitP (value / 2 ^ j % 2) (blindAt seed blind n j) (rndI seed j 1) (rndI seed j 2) (rndI seed j 3)
def proveL (value : Nat) (seed : List UInt8) (blind : Int) (n : Nat) : List BP := (List.range n).map (proofAt value seed blind n)
theorem proveL_len (value : Nat) (seed : List UInt8) (blind : Int) (n : Nat) : (proveL value seed blind n).length = n := by simp [proveL]
theorem proveL_at (value : Nat) (seed : List UInt8) (blind : Int) (n j : Nat) (h : j < n) : (proveL value seed blind n).getD j zeroBP = proofAt value seed blind n j := by
  simp [proveL, List.getD, h]
/-! The laws -/
theorem divI_nat (c i : Nat) : divI (c : Int) (i : Int) = ((Grp.divd c i : Nat) : Int) := by
  unfold divI Grp.divd
  have h : pwI 4 1073741788 = ((4 ^ (Grp.Q - 1) % Grp.P : Nat) : Int) := pwI_nat 4 (Grp.Q - 1)
  rw [h, pwI_nat, mulI_nat]
theorem inFB_nat (n : Nat) : inFB (n : Int) = true ↔ n < Grp.Q := by
  unfold inFB
  simp only [Bool.and_eq_true, decide_eq_true_eq]
  constructor
  · intro h; show n < 1073741789; omega
  · intro h
    have h : n < 1073741789 := h
    omega
theorem inFB_get {x : Int} (h : inFB x = true) : ∃ n : Nat, x = n ∧ n < Grp.Q := by
  have h0 : 0 ≤ x := by
    unfold inFB at h
    simp only [Bool.and_eq_true, decide_eq_true_eq] at h
    exact h.1
  obtain ⟨n, rfl⟩ := Int.eq_ofNat_of_zero_le h0
  exact ⟨n, rfl, (inFB_nat n).1 h⟩
theorem sideB_nat (c f e z i : Nat) : sideB (c : Int) (f : Int) (e : Int) (z : Int) (i : Int) = true ↔ (e < Grp.Q ∧ z < Grp.Q ∧ 9 ^ z % Grp.P = f * (Grp.divd c i) ^ e % Grp.P) := by
  unfold sideB
  have h9 : pwI 9 (z : Int) = ((9 ^ z % Grp.P : Nat) : Int) := pwI_nat 9 z
  rw [divI_nat, pwI_nat, mulI_nat, h9, Nat.mul_mod_mod]
  simp only [Bool.and_eq_true, beq_iff_eq]
  rw [inFB_nat, inFB_nat, Int.natCast_inj]
theorem otherF_nat (c o e z : Nat) : otherF (c : Int) (o : Int) (e : Int) (z : Int) = (((9 ^ z % Grp.P) * ((Grp.divd c o ^ (Grp.Q - 1) % Grp.P) ^ e % Grp.P) % Grp.P : Nat) : Int) := by
  unfold otherF
  have h9 : pwI 9 (z : Int) = ((9 ^ z % Grp.P : Nat) : Int) := pwI_nat 9 z
  have hd : pwI ((Grp.divd c o : Nat) : Int) 1073741788 = ((Grp.divd c o ^ (Grp.Q - 1) % Grp.P : Nat) : Int) := pwI_nat _ (Grp.Q - 1)
  rw [divI_nat, hd, pwI_nat, h9, mulI_nat]
theorem ownE_nat (c f0 f1 : Int) (e : Int) : ∃ n : Nat, ownE c f0 f1 e = n ∧ n < Grp.Q := by
  have h : 0 ≤ ownE c f0 f1 e ∧ ownE c f0 f1 e < 1073741789 := by unfold ownE; omega
  exact ⟨(ownE c f0 f1 e).toNat, by omega, by show _ < 1073741789; omega⟩
theorem ownZ_nat (k e b : Nat) : ownZ (k : Int) (e : Int) (b : Int) = (((k + e * b) % Grp.Q : Nat) : Int) := by
  unfold ownZ
  rw [Int.natCast_emod, Int.natCast_add, Int.natCast_mul]; rfl
theorem sum_own (c f0 f1 e : Int) (h0 : 0 ≤ e) (h1 : e < 1073741789) : (ownE c f0 f1 e + e) % 1073741789 = chalI c f0 f1 := by
  have := chalI_bd c f0 f1
  unfold ownE
  omega
theorem commit_El (i b : Nat) : Grp.El (4 ^ i * 9 ^ b % Grp.P) := ((Grp.el_4.pow' i).mul' (Grp.el_9.pow' b)).mod
theorem elB_mk (x : Nat) (h : x < Grp.P) (h2 : Grp.El x) : elB (x : Int) = true := (elB_nat x).2 ⟨h, h2⟩
theorem own_side (i b k e : Nat) (he : e < Grp.Q) : sideB ((4 ^ i * 9 ^ b % Grp.P : Nat) : Int) ((9 ^ k % Grp.P : Nat) : Int) (e : Int) (((k + e * b) % Grp.Q : Nat) : Int) (i : Int) = true := by
  rw [sideB_nat]
  refine ⟨he, Nat.mod_lt _ (by decide), ?_⟩
  rw [Grp.own_reply k e b _ (Grp.divd_own i b), Nat.mul_mod_mod]
theorem other_side (c o e z : Nat) (hc : Grp.El c) (he : e < Grp.Q) (hz : z < Grp.Q) : sideB (c : Int) (otherF (c : Int) (o : Int) (e : Int) (z : Int)) (e : Int) (z : Int) (o : Int) = true := by
  rw [otherF_nat, sideB_nat]
  refine ⟨he, hz, ?_⟩
  have h := Grp.other_reply z e (Grp.divd c o) (Grp.divd_El hc o)
  rw [Nat.mul_mod_mod] at h
  exact h
theorem other_el (c o e z : Nat) (hc : Grp.El c) : elB (otherF (c : Int) (o : Int) (e : Int) (z : Int)) = true := by
  rw [otherF_nat]
  exact elB_mk _ (Nat.mod_lt _ Grp.P_pos) (Grp.other_El z e _ (Grp.divd_El hc o))
theorem pw9 (k : Nat) : pwI 9 (k : Int) = ((9 ^ k % Grp.P : Nat) : Int) := pwI_nat 9 k
theorem valid0 (b k e z : Nat) (hb : b < Grp.Q) (hk : k < Grp.Q) (he : e < Grp.Q) (hz : z < Grp.Q) : validB (bit0P b k e z) = true := by
  have hC : commitI 0 (b : Int) = ((4 ^ 0 * 9 ^ b % Grp.P : Nat) : Int) := commitI_nat 0 b
  have hel := commit_El 0 b
  have hcl : 4 ^ 0 * 9 ^ b % Grp.P < Grp.P := Nat.mod_lt _ Grp.P_pos
  have hos := own_side 0 b k
  unfold bit0P
  rw [hC]
  generalize 4 ^ 0 * 9 ^ b % Grp.P = C at *
  have hot := other_side C 1 e z hel he hz
  have hoe := other_el C 1 e z hel
  generalize hF : otherF (C : Int) ((1 : Nat) : Int) (e : Int) (z : Int) = F at *
  have hs := sum_own (C : Int) (pwI 9 (k : Int)) F (e : Int) (by omega) (by have : e < 1073741789 := he; omega)
  obtain ⟨n, hn, hn1⟩ := ownE_nat (C : Int) (pwI 9 (k : Int)) F (e : Int)
  rw [hn] at hs ⊢
  rw [ownZ_nat, pw9] at *
  unfold validB rightB
  simp only []
  rw [elB_mk C hcl hel, hoe, elB_mk _ (Nat.mod_lt _ Grp.P_pos) (Grp.el_9.pow k), hs]
  have h1 := hos n hn1
  have h1' : sideB (C : Int) ((9 ^ k % Grp.P : Nat) : Int) (n : Int) (((k + n * b) % Grp.Q : Nat) : Int) 0 = true := h1
  have h2' : sideB (C : Int) F (e : Int) (z : Int) 1 = true := hot
  rw [h1', h2']
  simp
theorem valid1 (b k e z : Nat) (hb : b < Grp.Q) (hk : k < Grp.Q) (he : e < Grp.Q) (hz : z < Grp.Q) : validB (bit1P b k e z) = true := by
  have hC : commitI 1 (b : Int) = ((4 ^ 1 * 9 ^ b % Grp.P : Nat) : Int) := commitI_nat 1 b
  have hel := commit_El 1 b
  have hcl : 4 ^ 1 * 9 ^ b % Grp.P < Grp.P := Nat.mod_lt _ Grp.P_pos
  have hos := own_side 1 b k
  unfold bit1P
  rw [hC]
  generalize 4 ^ 1 * 9 ^ b % Grp.P = C at *
  have hot := other_side C 0 e z hel he hz
  have hoe := other_el C 0 e z hel
  generalize hF : otherF (C : Int) ((0 : Nat) : Int) (e : Int) (z : Int) = F at *
  have hs := sum_own (C : Int) F (pwI 9 (k : Int)) (e : Int) (by omega) (by have : e < 1073741789 := he; omega)
  obtain ⟨n, hn, hn1⟩ := ownE_nat (C : Int) F (pwI 9 (k : Int)) (e : Int)
  rw [hn] at hs ⊢
  rw [ownZ_nat, pw9] at *
  unfold validB rightB
  simp only []
  rw [elB_mk C hcl hel, hoe, elB_mk _ (Nat.mod_lt _ Grp.P_pos) (Grp.el_9.pow k), Int.add_comm, hs]
  have h1 := hos n hn1
  have h1' : sideB (C : Int) ((9 ^ k % Grp.P : Nat) : Int) (n : Int) (((k + n * b) % Grp.Q : Nat) : Int) 1 = true := h1
  have h2' : sideB (C : Int) F (e : Int) (z : Int) 0 = true := hot
  rw [h1', h2']
  simp
theorem nat_of_bd {x : Int} (h : 0 ≤ x ∧ x < 1073741789) : ∃ n : Nat, x = n ∧ n < Grp.Q := ⟨x.toNat, by omega, by show _ < 1073741789; omega⟩
theorem valid_bit (i : Nat) (b k e z : Int) (hb : 0 ≤ b ∧ b < 1073741789) (hk : 0 ≤ k ∧ k < 1073741789) (he : 0 ≤ e ∧ e < 1073741789) (hz : 0 ≤ z ∧ z < 1073741789) : validB (bitP i b k e z) = true := by
  obtain ⟨b, rfl, gb⟩ := nat_of_bd hb
  obtain ⟨k, rfl, gk⟩ := nat_of_bd hk
  obtain ⟨e, rfl, ge⟩ := nat_of_bd he
  obtain ⟨z, rfl, gz⟩ := nat_of_bd hz
  unfold bitP
  split
  · exact valid0 b k e z gb gk ge gz
  · exact valid1 b k e z gb gk ge gz
theorem blindAt_bd (seed : List UInt8) (blind : Int) (h0 : 0 ≤ blind) (h1 : blind < 1073741789) (n j : Nat) : 0 ≤ blindAt seed blind n j ∧ blindAt seed blind n j < 1073741789 := by
  unfold blindAt
  split
  · exact restI_bd seed blind h0 h1 n
  · exact rndI_bd _ _ _
theorem valid_at (value : Nat) (seed : List UInt8) (blind : Int) (h0 : 0 ≤ blind) (h1 : blind < 1073741789) (n j : Nat) : validB (proofAt value seed blind n j) = true :=
  valid_bit _ _ _ _ _ (blindAt_bd seed blind h0 h1 n j) (rndI_bd _ _ _) (rndI_bd _ _ _) (rndI_bd _ _ _)
theorem bitP_c (i : Nat) (hi : i < 2) (b k e z : Int) : (bitP i b k e z).c = commitI i b := by
  unfold bitP
  rcases (show i = 0 ∨ i = 1 by omega) with rfl | rfl
  · rfl
  · rfl
/-- The sum of f j times 2 to the j-th. -/
def sum2 (f : Nat → Nat) : Nat → Nat
  | 0 => 0
  | n + 1 => sum2 f n + f n * 2 ^ n
theorem prod_pow (bt bl : Nat → Nat) : ∀ n, prodI (fun j => ((4 ^ bt j * 9 ^ bl j % Grp.P : Nat) : Int)) n = ((4 ^ sum2 bt n * 9 ^ sum2 bl n % Grp.P : Nat) : Int)
  | 0 => by simp only [prodI, sum2]; decide
  | n + 1 => by
    simp only [prodI, sum2]
    rw [prod_pow bt bl n, pwI_nat, mulI_nat]
    congr 1
    rw [Nat.mod_mul_mod, Nat.mul_mod_mod, Nat.mul_mod, ← Nat.pow_mod, ← Nat.mul_mod, Nat.mul_pow, ← Nat.pow_mul, ← Nat.pow_mul, Nat.mul_mul_mul_comm, ← Nat.pow_add, ← Nat.pow_add]
theorem sum2_bits (v : Nat) : ∀ n, sum2 (fun j => v / 2 ^ j % 2) n = v % 2 ^ n
  | 0 => by simp [sum2, Nat.mod_one]
  | n + 1 => by
    simp only [sum2]
    rw [sum2_bits v n, Nat.pow_succ, Nat.mod_mul, Nat.mul_comm (2 ^ n)]
theorem sum2_add (f g : Nat → Nat) : ∀ n, sum2 (fun j => f j + g j) n = sum2 f n + sum2 g n
  | 0 => rfl
  | n + 1 => by simp only [sum2]; rw [sum2_add f g n, Nat.add_mul]; omega
/-- The blinding numbers, with the powers of 2, add up to the blinding number. -/
theorem sum2_rest (seed : List UInt8) (blind : Int) (m : Nat) (bl : Nat → Nat) (h0 : (bl 0 : Int) = restI seed blind m) (hj : ∀ j, 0 < j → (bl j : Int) = rndI seed j 0) :
    ∀ n, 0 < n → ∃ s : Int, ((sum2 bl n : Nat) : Int) = restI seed blind m + s ∧ (restI seed blind n + s) % 1073741789 = blind % 1073741789
  | 0, h => absurd h (Nat.lt_irrefl 0)
  | 1, _ => by
    refine ⟨0, ?_, ?_⟩
    · simp only [sum2]; simp; exact h0
    · simp [restI]
  | n + 2, _ => by
    obtain ⟨s, hs, hr⟩ := sum2_rest seed blind m bl h0 hj (n + 1) (by omega)
    refine ⟨s + rndI seed ((n + 1 : Nat) : Int) 0 * ((2 ^ (n + 1) : Nat) : Int), ?_, ?_⟩
    · rw [sum2, Int.natCast_add, hs, Int.natCast_mul, hj (n + 1) (by omega)]; omega
    · rw [restI, if_neg (by omega)]
      generalize rndI seed ((n + 1 : Nat) : Int) 0 * ((2 ^ (n + 1) : Nat) : Int) = x at *
      omega
theorem prod_prove (value : Nat) (seed : List UInt8) (blind : Int) (h0 : 0 ≤ blind) (h1 : blind < 1073741789) (n : Nat) (hn : 0 < n) (hv : value < 2 ^ n) :
    prodI (cAt (proveL value seed blind n)) n = commitI value blind := by
  obtain ⟨bl, hbl⟩ : ∃ bl : Nat → Nat, ∀ j, blindAt seed blind n j = (bl j : Int) := ⟨fun j => (blindAt seed blind n j).toNat, fun j => (Int.toNat_of_nonneg (blindAt_bd seed blind h0 h1 n j).1).symm⟩
  have hc : ∀ j, j < n → cAt (proveL value seed blind n) j = ((4 ^ (value / 2 ^ j % 2) * 9 ^ bl j % Grp.P : Nat) : Int) := by
    intro j hj
    unfold cAt
    rw [proveL_at _ _ _ _ _ hj]
    unfold proofAt
    rw [bitP_c _ (Nat.mod_lt _ (by decide)), hbl, commitI_nat]
  rw [prodI_congr _ _ n hc, prod_pow, sum2_bits, Nat.mod_eq_of_lt hv]
  obtain ⟨s, hs, hr⟩ := sum2_rest seed blind n bl (by rw [← hbl]; rfl) (fun j hj => by rw [← hbl]; unfold blindAt; rw [if_neg (by omega)]) n hn
  obtain ⟨b, rfl⟩ := Int.eq_ofNat_of_zero_le h0
  rw [commitI_nat]
  congr 1
  refine Grp.mc rfl ?_
  rw [Grp.el_9.red, Grp.el_9.red b]
  have : sum2 bl n % Grp.Q = b % Grp.Q := by
    show sum2 bl n % 1073741789 = b % 1073741789
    omega
  rw [this]
theorem verify_prove (value : Nat) (seed : List UInt8) (blind : Int) (h0 : 0 ≤ blind) (h1 : blind < 1073741789) (n : Nat) (hn : 0 < n) (hn2 : n ≤ 28) (hv : value < 2 ^ n) :
    verifyB (commitI value blind) n (proveL value seed blind n) = true := by
  unfold verifyB
  rw [proveL_len, prod_prove value seed blind h0 h1 n hn hv]
  have ha : (proveL value seed blind n).all validB = true := by
    rw [List.all_eq_true]
    intro p hp
    unfold proveL at hp
    obtain ⟨j, _, rfl⟩ := List.mem_map.1 hp
    exact valid_at value seed blind h0 h1 n j
  rw [ha]
  simp
  omega
end Go.Proofs.YthebahahpkficaaDoor
