namespace Go.Dig
/-! plain digest -/
def feed (s : UInt64) (b : UInt8) : UInt64 := ((s ^^^ b.toUInt64) * (1099511628211 : UInt64)) ^^^ (((s ^^^ b.toUInt64) * (1099511628211 : UInt64)) >>> 32)
def init : UInt64 := 2611923443488327891
def state (l : List UInt8) : UInt64 := l.foldl feed init
def stepA (s : UInt64) : UInt64 := (s ^^^ (s >>> 31)) * 13787848793156543929
def stepB (s : UInt64) : UInt64 := (s ^^^ (s >>> 27)) * 10723151780598845931
def stepC (s : UInt64) : UInt64 := s ^^^ (s >>> 33)
def finish (s : UInt64) (n : UInt64) : UInt64 := stepC (stepB (stepA (s ^^^ n)))
def sum (l : List UInt8) : UInt64 := finish (state l) (UInt64.ofNat l.length)

theorem xs_inj (k : Nat) (hk : 0 < k) (hk' : k < 64) (x y : UInt64) (h : x ^^^ (x >>> UInt64.ofNat k) = y ^^^ (y >>> UInt64.ofNat k)) : x = y := by
  have h' := congrArg UInt64.toNat h
  simp only [UInt64.toNat_xor, UInt64.toNat_shiftRight] at h'
  have e : (UInt64.ofNat k).toNat % 64 = k := by simp; omega
  rw [e] at h'
  have z : (x.toNat ^^^ y.toNat) ^^^ ((x.toNat ^^^ y.toNat) >>> k) = 0 := by
    rw [Nat.shiftRight_xor_distrib]
    calc x.toNat ^^^ y.toNat ^^^ (x.toNat >>> k ^^^ y.toNat >>> k) = (x.toNat ^^^ x.toNat >>> k) ^^^ (y.toNat ^^^ y.toNat >>> k) := by ac_rfl
      _ = 0 := by rw [h', Nat.xor_self]
  have z2 : (x.toNat ^^^ y.toNat) = ((x.toNat ^^^ y.toNat) >>> k) := by
    have := congrArg (fun t => t ^^^ ((x.toNat ^^^ y.toNat) >>> k)) z
    simpa [Nat.xor_assoc] using this
  have z3 : x.toNat ^^^ y.toNat = 0 := by
    rw [Nat.shiftRight_eq_div_pow] at z2
    rcases Nat.eq_zero_or_pos (x.toNat ^^^ y.toNat) with h0 | h0
    · exact h0
    · have : (x.toNat ^^^ y.toNat) / 2 ^ k < x.toNat ^^^ y.toNat := Nat.div_lt_self h0 (by exact Nat.one_lt_two_pow (by omega))
      omega
  apply UInt64.toNat_inj.1
  have := congrArg (fun t => t ^^^ y.toNat) z3
  simpa [Nat.xor_assoc] using this

theorem mul_inj (c d x y : UInt64) (hc : c * d = 1) (h : x * c = y * c) : x = y := by
  have := congrArg (· * d) h
  simpa [UInt64.mul_assoc, hc] using this

theorem xor_inj (x y n : UInt64) (h : x ^^^ n = y ^^^ n) : x = y := by
  have := congrArg (· ^^^ n) h
  simpa [UInt64.xor_assoc] using this
theorem feed_inj_s (s t : UInt64) (b : UInt8) (h : feed s b = feed t b) : s = t := by
  have h1 := xs_inj 32 (by decide) (by decide) _ _ h
  exact xor_inj _ _ _ (mul_inj _ 14886173955864302971 _ _ (by decide) h1)
theorem xor_inj_r (x y n : UInt64) (h : n ^^^ x = n ^^^ y) : x = y := by
  rw [UInt64.xor_comm n x, UInt64.xor_comm n y] at h; exact xor_inj _ _ _ h
theorem feed_inj_b (s : UInt64) (a b : UInt8) (h : feed s a = feed s b) : a = b := by
  have h1 := xs_inj 32 (by decide) (by decide) _ _ h
  have h2 := xor_inj_r _ _ _ (mul_inj _ 14886173955864302971 _ _ (by decide) h1)
  have := congrArg UInt64.toNat h2
  simp at this
  exact UInt8.toNat_inj.1 this
theorem finish_inj (s t n : UInt64) (h : finish s n = finish t n) : s = t := by
  have h1 := xs_inj 33 (by decide) (by decide) _ _ h
  have h2 := mul_inj _ 3573116690164977347 _ _ (by decide) h1
  have h3 := xs_inj 27 (by decide) (by decide) _ _ h2
  have h4 := mul_inj _ 10871156337175269513 _ _ (by decide) h3
  have h5 := xs_inj 31 (by decide) (by decide) _ _ h4
  exact xor_inj _ _ _ h5
theorem fold_inj (l : List UInt8) (s t : UInt64) (h : l.foldl feed s = l.foldl feed t) : s = t := by
  induction l generalizing s t with
  | nil => exact h
  | cons a l ih => exact feed_inj_s _ _ a (ih _ _ h)
def byte (d : UInt64) (k : Nat) : UInt8 := UInt8.ofNat (d.toNat / 256 ^ k)
def be8 (d : UInt64) : List UInt8 := [byte d 7, byte d 6, byte d 5, byte d 4, byte d 3, byte d 2, byte d 1, byte d 0]
def pair (a b : UInt64) : UInt64 := sum (1 :: (be8 a ++ be8 b))
theorem byte_toNat (d : UInt64) (k : Nat) : (byte d k).toNat = d.toNat / 256 ^ k % 256 := by simp [byte]
def hexd (n : Nat) : UInt8 := if n < 10 then UInt8.ofNat (48 + n) else UInt8.ofNat (87 + n)
def dig (d : UInt64) (k : Nat) : UInt8 := hexd (d.toNat / 16 ^ k % 16)
def text (d : UInt64) : List UInt8 := [dig d 15, dig d 14, dig d 13, dig d 12, dig d 11, dig d 10, dig d 9, dig d 8, dig d 7, dig d 6, dig d 5, dig d 4, dig d 3, dig d 2, dig d 1, dig d 0]
def unhex (c : UInt8) : Option Nat := if 48 ≤ c ∧ c ≤ 57 then some (c.toNat - 48) else if 97 ≤ c ∧ c ≤ 102 then some (c.toNat - 87) else none
def unhexTo (c : UInt8) : Nat → Int
  | 0 => -1
  | j + 1 => if hexd j = c then j else unhexTo c j
def unhexI (c : UInt8) : Int := match unhex c with
  | none => -1
  | some v => v
def parseL : List UInt8 → UInt64 → Option UInt64
  | [], d => some d
  | c :: l, d => match unhex c with
    | none => none
    | some v => parseL l (d * 16 + UInt64.ofNat v)
def parse (l : List UInt8) : Option UInt64 := if l.length = 16 then parseL l 0 else none
def pv (l : List UInt8) : UInt64 := (parse l).getD 0
def pe (l : List UInt8) : Int := if (parse l).isSome then 0 else 12
theorem unhexTo_16 (c : UInt8) : unhexTo c 16 = unhexI c := by
  have h : ∀ n : Fin 256, unhexTo (UInt8.ofNat n.val) 16 = unhexI (UInt8.ofNat n.val) := by decide +kernel
  have := h ⟨c.toNat, c.toNat_lt⟩
  simpa using this
theorem unhex_lt (c : UInt8) (v : Nat) (h : unhex c = some v) : v < 16 := by
  unfold unhex at h
  have := c.toNat_lt
  split at h
  · rename_i h1; have := UInt8.le_iff_toNat_le.1 h1.1; have := UInt8.le_iff_toNat_le.1 h1.2; simp at *; omega
  · split at h
    · rename_i h1; have := UInt8.le_iff_toNat_le.1 h1.1; have := UInt8.le_iff_toNat_le.1 h1.2; simp at *; omega
    · cases h
theorem parseL_append (l : List UInt8) (c : UInt8) (d : UInt64) : parseL (l ++ [c]) d = match parseL l d with
    | none => none
    | some e => match unhex c with
      | none => none
      | some v => some (e * 16 + UInt64.ofNat v) := by
  induction l generalizing d with
  | nil => simp only [List.nil_append, parseL]
  | cons a l ih =>
    simp only [List.cons_append, parseL]
    cases unhex a with
    | none => rfl
    | some v => exact ih _
theorem parseL_none (l m : List UInt8) (d : UInt64) (h : parseL l d = none) : parseL (l ++ m) d = none := by
  induction l generalizing d with
  | nil => simp [parseL] at h
  | cons a l ih =>
    simp only [List.cons_append, parseL] at h ⊢
    cases hu : unhex a with
    | none => rfl
    | some v => rw [hu] at h; exact ih _ h
def btail (d : UInt64) : Nat → List UInt8
  | 0 => []
  | k + 1 => byte d k :: btail d k
def ttail (d : UInt64) : Nat → List UInt8
  | 0 => []
  | k + 1 => dig d k :: ttail d k
theorem btail_8 (d : UInt64) : btail d 8 = be8 d := rfl
theorem ttail_16 (d : UInt64) : ttail d 16 = text d := rfl
theorem btail_len (d : UInt64) (k : Nat) : (btail d k).length = k := by induction k with
  | zero => rfl
  | succ k ih => simp [btail, ih]
theorem ttail_len (d : UInt64) (k : Nat) : (ttail d k).length = k := by induction k with
  | zero => rfl
  | succ k ih => simp [ttail, ih]
theorem sum_one (l t : List UInt8) (k : Nat) (hk : k < l.length) (c : UInt8) : sum (l ++ t) = sum ((l.take k ++ c :: l.drop (k + 1)) ++ t) ↔ l[k] = c := by
  have hl : l.take k ++ l[k] :: l.drop (k + 1) = l := by
    rw [← List.drop_eq_getElem_cons hk, List.take_append_drop]
  have hlen : ((l.take k ++ c :: l.drop (k + 1)) ++ t).length = (l ++ t).length := by simp; omega
  constructor
  · intro h
    have h0 : sum ((l.take k ++ l[k] :: l.drop (k + 1)) ++ t) = sum ((l.take k ++ c :: l.drop (k + 1)) ++ t) := by rw [hl]; exact h
    generalize l[k] = b at h0 ⊢
    have hlen2 : ((l.take k ++ b :: l.drop (k + 1)) ++ t).length = ((l.take k ++ c :: l.drop (k + 1)) ++ t).length := by simp
    generalize l.take k = p at h0 hlen2
    generalize l.drop (k + 1) = q at h0 hlen2
    unfold sum at h0
    rw [hlen2] at h0
    have h1 := finish_inj _ _ _ h0
    unfold state at h1
    simp only [List.foldl_append, List.foldl_cons] at h1
    exact feed_inj_b _ _ _ (fold_inj _ _ _ (fold_inj _ _ _ h1))
  · intro h
    rw [← h, hl]
theorem beq_uu (a b : UInt64) : (((a.toNat : Int) == (b.toNat : Int)) = decide (a = b)) := by
  rw [Bool.eq_iff_iff, beq_iff_eq, decide_eq_true_iff]
  exact ⟨fun h => UInt64.toNat_inj.1 (by omega), fun h => by rw [h]⟩
theorem beq_bb (a b : UInt8) : (((a.toNat : Int) == (b.toNat : Int)) = decide (a = b)) := by
  rw [Bool.eq_iff_iff, beq_iff_eq, decide_eq_true_iff]
  exact ⟨fun h => UInt8.toNat_inj.1 (by omega), fun h => by rw [h]⟩
theorem one_law (l t : List UInt8) (k : Nat) (hk : k < l.length) (c : UInt8) : (((sum (l ++ t)).toNat : Int) == ((sum ((l.take k ++ c :: l.drop (k + 1)) ++ t)).toNat : Int)) = ((l[k].toNat : Int) == (c.toNat : Int)) := by
  rw [beq_uu, beq_bb, decide_eq_decide]
  exact sum_one l t k hk c
theorem ext_from (a : ByteArray) (i j : Nat) : (a.extract i j).data.toList = (a.data.toList.take j).drop i := by
  simp [ByteArray.data_extract, List.drop_take]
theorem ext_get (a : ByteArray) (m k : Nat) (h : k < (a.extract 0 m).size) (h2 : k < (a.data.toList.take m).length) : (a.extract 0 m)[k] = (a.data.toList.take m)[k] := by
  rw [ByteArray.getElem_eq_getElem_data]
  simp [ByteArray.data_extract]
end Go.Dig
