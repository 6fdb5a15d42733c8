/- The latest totals do not depend on the order of a list (layer 29, plain). made (a list of totals) and distinct of the law package (layer 29). Appends of rows: where the new row lies; slices of rows (layer 29). Issued totals as elements of a list (layer 29). -/
import Derived.Test.YtmebllhkfepkdaaGreatDoorQ26
namespace Go.Proofs.YtmebllhkfepkdaaGreatDoor
open Go.RowKit Go.Shelf
set_option linter.unusedVariables false
set_option linter.unusedSimpArgs false
/-- What makes a list the latest totals of another one. -/
structure IsLate (R acc : List TotD) : Prop where
  sub : ∀ u ∈ acc, u ∈ R ∧ ∀ v ∈ R, v.e = u.e → v.m ≤ u.m
  cov : ∀ v ∈ R, ∃ u ∈ acc, u.e = v.e
  one : OneE acc
theorem IsLate.new : IsLate [] [] := ⟨fun u h => (by cases h), fun u h => (by cases h), List.Pairwise.nil⟩
theorem mem_updT {acc : List TotD} {t u : TotD} : u ∈ updT acc t ↔ u = t ∨ (u ∈ acc ∧ ¬ u.e = t.e) := by
  unfold updT
  rw [List.mem_cons, List.mem_filter, decide_eq_true_iff]
theorem IsLate.upd {R acc : List TotD} (h : IsLate R acc) (t : TotD) (ht : ∀ v ∈ R, v.e = t.e → v.m ≤ t.m) : IsLate (R ++ [t]) (updT acc t) := by
  refine ⟨fun u hu => ?_, fun v hv => ?_, updT_one h.one t⟩
  · rcases mem_updT.1 hu with e | ⟨hu, hne⟩
    · subst e
      refine ⟨by simp, fun v hv he => ?_⟩
      rcases List.mem_append.1 hv with hv | hv
      · exact ht v hv he
      · rw [List.mem_singleton.1 hv]; exact Int.le_refl _
    · obtain ⟨h1, h2⟩ := h.sub u hu
      refine ⟨List.mem_append_left _ h1, fun v hv he => ?_⟩
      rcases List.mem_append.1 hv with hv | hv
      · exact h2 v hv he
      · rw [List.mem_singleton.1 hv] at he; exact absurd he.symm hne
  · rcases List.mem_append.1 hv with hv | hv
    · obtain ⟨u, hu, he⟩ := h.cov v hv
      by_cases hx : u.e = t.e
      · exact ⟨t, mem_updT.2 (.inl rfl), by rw [← he, hx]⟩
      · exact ⟨u, mem_updT.2 (.inr ⟨hu, hx⟩), he⟩
    · rw [List.mem_singleton.1 hv]
      exact ⟨t, mem_updT.2 (.inl rfl), rfl⟩
theorem IsLate.step {R acc : List TotD} (h : IsLate R acc) (t : TotD) : IsLate (R ++ [t]) (stepT acc t) := by
  unfold stepT
  split
  · rename_i hl
    refine h.upd t fun v hv he => ?_
    obtain ⟨u, hu, hue⟩ := h.cov v hv
    exact absurd (hue.trans he) (lastT_none hl u hu)
  · rename_i u0 hl
    obtain ⟨hu0, he0⟩ := lastT_some hl
    split
    · rename_i hle
      refine h.upd t fun v hv he => ?_
      exact Int.le_trans ((h.sub u0 hu0).2 v hv (he.trans he0.symm)) hle
    · rename_i hle
      refine ⟨fun u hu => ?_, fun v hv => ?_, h.one⟩
      · obtain ⟨h1, h2⟩ := h.sub u hu
        refine ⟨List.mem_append_left _ h1, fun v hv he => ?_⟩
        rcases List.mem_append.1 hv with hv | hv
        · exact h2 v hv he
        · rw [List.mem_singleton.1 hv] at he ⊢
          have : u = u0 := h.one.eq hu hu0 (he.symm.trans he0.symm)
          rw [this]; omega
      · rcases List.mem_append.1 hv with hv | hv
        · exact h.cov v hv
        · rw [List.mem_singleton.1 hv]
          exact ⟨u0, hu0, he0⟩
theorem late_fold : ∀ (l P acc : List TotD), IsLate P acc → IsLate (P ++ l) (l.foldl stepT acc)
  | [], P, acc, h => by rw [List.append_nil]; exact h
  | x :: l, P, acc, h => by
    have := late_fold l (P ++ [x]) (stepT acc x) (h.step x)
    rw [List.append_assoc] at this
    exact this
theorem late_is (R : List TotD) : IsLate R (lateL R) := by
  have := late_fold R [] [] IsLate.new
  rwa [List.nil_append] at this
/-- Employer and month tell the totals apart. -/
def DistEM (R : List TotD) : Prop := ∀ u ∈ R, ∀ v ∈ R, u.e = v.e → u.m = v.m → u = v
theorem one_nodup {acc : List TotD} (h : OneE acc) : acc.Nodup := by
  unfold OneE at h
  exact h.imp fun k e => k (by rw [e])
theorem IsLate.le {R R' acc acc' : List TotD} (h : IsLate R acc) (h' : IsLate R' acc') (hm : ∀ u, u ∈ R ↔ u ∈ R') (hd : DistEM R) {u : TotD} (hu : u ∈ acc) : u ∈ acc' := by
  obtain ⟨h1, h2⟩ := h.sub u hu
  obtain ⟨v, hv, hve⟩ := h'.cov u ((hm u).1 h1)
  obtain ⟨h3, h4⟩ := h'.sub v hv
  have h5 := h2 v ((hm v).2 h3) hve
  have h6 := h4 u ((hm u).1 h1) hve.symm
  have : u = v := hd u h1 v ((hm v).2 h3) hve.symm (Int.le_antisymm h6 h5)
  rw [this]; exact hv
theorem IsLate.same {R R' acc acc' : List TotD} (h : IsLate R acc) (h' : IsLate R' acc') (hm : ∀ u, u ∈ R ↔ u ∈ R') (hd : DistEM R) : acc.Perm acc' := by
  have hd' : DistEM R' := fun u hu v hv => hd u ((hm u).2 hu) v ((hm v).2 hv)
  exact (List.perm_ext_iff_of_nodup (one_nodup h.one) (one_nodup h'.one)).2 fun u => ⟨h.le h' hm hd, h'.le h (fun u => (hm u).symm) hd'⟩
theorem sumA_perm (f : TotD → Int) {a b : List TotD} (h : a.Perm b) : sumA f a = sumA f b := by
  unfold sumA
  induction h with
  | nil => rfl
  | cons x _ ih => rw [List.map_cons, List.map_cons, List.sum_cons, List.sum_cons, ih]
  | swap x y l => simp only [List.map_cons, List.sum_cons]; omega
  | trans _ _ h1 h2 => rw [h1, h2]
theorem late_sum (f : TotD → Int) {R R' : List TotD} (hm : ∀ u, u ∈ R ↔ u ∈ R') (hd : DistEM R) : sumA f (lateL R) = sumA f (lateL R') :=
  sumA_perm f ((late_is R).same (late_is R') hm hd)
theorem IsLate.filter {R acc : List TotD} (h : IsLate R acc) (e : ByteArray) : IsLate (R.filter fun u => decide (¬ u.e = e)) (acc.filter fun u => decide (¬ u.e = e)) := by
  refine ⟨fun u hu => ?_, fun v hv => ?_, h.one.filter _⟩
  · obtain ⟨h1, h2⟩ := List.mem_filter.1 hu
    obtain ⟨h3, h4⟩ := h.sub u h1
    exact ⟨List.mem_filter.2 ⟨h3, h2⟩, fun v hv he => h4 v (List.mem_filter.1 hv).1 he⟩
  · obtain ⟨h1, h2⟩ := List.mem_filter.1 hv
    obtain ⟨u, hu, he⟩ := h.cov v h1
    exact ⟨u, List.mem_filter.2 ⟨hu, by rw [he]; exact h2⟩, he⟩
theorem late_last (f : TotD → Int) {R : List TotD} (t : TotD) (hle : ∀ u ∈ R, u.m ≤ t.m) (hd : DistEM R) : sumA f (lateL (R ++ [t])) = sumA f (lateL (R.filter fun u => decide (¬ u.e = t.e))) + f t := by
  have h1 : lateL (R ++ [t]) = updT (lateL R) t := by
    unfold lateL
    rw [List.foldl_append, List.foldl_cons, List.foldl_nil]
    show stepT (lateL R) t = updT (lateL R) t
    unfold stepT
    split
    · rfl
    · rename_i u hu
      rw [if_pos (hle u ((late_is R).sub u (lastT_some hu).1).1)]
  have hd2 : DistEM (R.filter fun u => decide (¬ u.e = t.e)) := fun u hu v hv => hd u (List.mem_filter.1 hu).1 v (List.mem_filter.1 hv).1
  have h2 := sumA_perm f (((late_is R).filter t.e).same (late_is _) (fun u => Iff.rfl) hd2)
  rw [h1, ← h2]
  unfold updT sumA
  rw [List.map_cons, List.sum_cons]
  omega
/-- Whether a total is like none of a list. -/
def newT (out : List TotD) (t : TotD) : Bool := out.all fun u => decide (u.e ≠ t.e) || decide (u.p ≠ t.p) || decide (u.m ≠ t.m)
def distStep (out : List TotD) (t : TotD) : List TotD := if newT out t = true then out ++ [t] else out
def distT (l : List TotD) : List TotD := l.foldl distStep []
/-- Two totals that differ in employer, person or month. -/
def ApartT (u v : TotD) : Prop := ¬ (u.e = v.e ∧ u.p = v.p ∧ u.m = v.m)
theorem newT_out {out : List TotD} {t : TotD} (h : newT out t = true) : ∀ u ∈ out, ApartT u t := by
  intro u hu hc
  have := List.all_eq_true.1 h u hu
  simp [hc.1, hc.2.1, hc.2.2] at this
theorem distStep_apart {out : List TotD} (h : out.Pairwise ApartT) (t : TotD) : (distStep out t).Pairwise ApartT := by
  unfold distStep
  split
  · rename_i hn
    refine List.pairwise_append.2 ⟨h, List.pairwise_singleton _ _, fun a ha b hb => ?_⟩
    rw [List.mem_singleton.1 hb]
    exact newT_out hn a ha
  · exact h
theorem distFold_apart : ∀ (l out : List TotD), out.Pairwise ApartT → (l.foldl distStep out).Pairwise ApartT
  | [], out, h => h
  | x :: l, out, h => distFold_apart l _ (distStep_apart h x)
theorem distT_apart (l : List TotD) : (distT l).Pairwise ApartT := distFold_apart l [] List.Pairwise.nil
theorem distFold_mem : ∀ (l out : List TotD) {u : TotD}, u ∈ l.foldl distStep out → u ∈ l ∨ u ∈ out
  | [], out, u, h => .inr h
  | x :: l, out, u, h => by
    rcases distFold_mem l _ h with h | h
    · exact .inl (.tail _ h)
    · unfold distStep at h
      split at h
      · rcases List.mem_append.1 h with h | h
        · exact .inr h
        · exact .inl (by rw [List.mem_singleton.1 h]; exact .head _)
      · exact .inr h
theorem distT_mem {l : List TotD} {u : TotD} (h : u ∈ distT l) : u ∈ l := by
  rcases distFold_mem l [] h with h | h
  · exact h
  · cases h
theorem distFold_len : ∀ (l out : List TotD), (l.foldl distStep out).length ≤ l.length + out.length
  | [], out => by simp
  | x :: l, out => by
    have h1 := distFold_len l (distStep out x)
    have h2 : (distStep out x).length ≤ out.length + 1 := by unfold distStep; split <;> simp
    rw [List.foldl_cons, List.length_cons]
    omega
theorem distT_len (l : List TotD) : (distT l).length ≤ l.length := distFold_len l []
theorem dist_take_succ {l : List TotD} {k : Nat} {t : TotD} (h : l[k]? = some t) : distT (l.take (k + 1)) = distStep (distT (l.take k)) t := by
  unfold distT
  rw [List.take_add_one, h, Option.toList_some, List.foldl_append]
  rfl
theorem apart_eq {l : List TotD} (h : l.Pairwise ApartT) : ∀ u ∈ l, ∀ v ∈ l, u.e = v.e → u.p = v.p → u.m = v.m → u = v := by
  induction l with
  | nil => intro u hu; cases hu
  | cons a r ih =>
    obtain ⟨h1, h2⟩ := List.pairwise_cons.1 h
    intro u hu v hv e1 e2 e3
    rcases List.mem_cons.1 hu with hu2 | hu2
    · rcases List.mem_cons.1 hv with hv2 | hv2
      · rw [hu2, hv2]
      · rw [hu2] at e1 e2 e3; exact absurd ⟨e1, e2, e3⟩ (h1 v hv2)
    · rcases List.mem_cons.1 hv with hv2 | hv2
      · rw [hv2] at e1 e2 e3; exact absurd ⟨e1.symm, e2.symm, e3.symm⟩ (h1 u hu2)
      · exact ih h2 u hu2 v hv2 e1 e2 e3
theorem cnt_dist {l : List TotD} (h : l.Pairwise ApartT) (p : ByteArray) (m : Int) : DistEM (l.filter (cntB p m)) := by
  intro u hu v hv e1 e2
  obtain ⟨hu, cu⟩ := List.mem_filter.1 hu
  obtain ⟨hv, cv⟩ := List.mem_filter.1 hv
  have hp : ∀ {t : TotD}, cntB p m t = true → t.p = p := by
    intro t ht
    unfold cntB at ht
    simp only [Bool.and_eq_true, decide_eq_true_eq] at ht
    exact ht.1.1.2
  exact apart_eq h u hu v hv e1 ((hp cu).trans (hp cv).symm) e2
/-- What Before returns does not depend on the order. -/
theorem bef_sum (f : TotD → Int) {a b : List TotD} (p : ByteArray) (m : Int) (hm : ∀ u, u ∈ a ↔ u ∈ b) (h : a.Pairwise ApartT) : sumA f (befT p m a) = sumA f (befT p m b) := by
  refine late_sum f (fun u => ?_) (cnt_dist h p m)
  rw [List.mem_filter, List.mem_filter, hm]
theorem bef_few (f : TotD → Int) (a : List TotD) (p : ByteArray) (m : Int) : befT p m (a.filter (cntB p m)) = befT p m a := by
  unfold befT
  rw [List.filter_filter]
  congr 1
  exact List.filter_congr fun x _ => by rw [Bool.and_self]
theorem bef_none {a : List TotD} {p : ByteArray} {m : Int} (h : ∀ u ∈ a, cntB p m u = false) : befT p m a = [] := by
  unfold befT
  rw [List.filter_eq_nil_iff.2 fun u hu => by rw [h u hu]; decide]
  rfl
theorem cnt_none {p : ByteArray} {m : Int} (hm : m % 12 = 0) (hm0 : 0 ≤ m) (u : TotD) : cntB p m u = false := by
  cases h : cntB p m u with
  | false => rfl
  | true =>
    unfold cntB at h
    simp only [Bool.and_eq_true, decide_eq_true_eq] at h
    omega
theorem cnt_start {p : ByteArray} {m : Int} (hm0 : 0 ≤ m) (u : TotD) : cntB p (m - m % 12) u = false := cnt_none (by omega) (by omega) u
theorem cnt_out {p : ByteArray} {m : Int} {t : TotD} (h : cntB p m t = true) : validTB t = true ∧ t.p = p ∧ t.m < m ∧ t.m / 12 = m / 12 := by
  unfold cntB at h
  simp only [Bool.and_eq_true, decide_eq_true_eq] at h
  exact ⟨h.1.1.1, h.1.1.2, h.1.2, h.2⟩
theorem bef_last (f : TotD → Int) {a : List TotD} (p : ByteArray) (m : Int) (t : TotD) (ht : cntB p m t = true) (htm : t.m = m - 1) (h : a.Pairwise ApartT) :
    sumA f (befT p m (a ++ [t])) = sumA f (befT p m ((a.filter (cntB p m)).filter fun u => decide (¬ u.e = t.e))) + f t := by
  have h1 : (a ++ [t]).filter (cntB p m) = a.filter (cntB p m) ++ [t] := by rw [List.filter_append, List.filter_cons, if_pos ht]; rfl
  have h2 : ((a.filter (cntB p m)).filter fun u => decide (¬ u.e = t.e)).filter (cntB p m) = (a.filter (cntB p m)).filter fun u => decide (¬ u.e = t.e) := by
    rw [List.filter_eq_self]
    intro u hu
    exact (List.mem_filter.1 (List.mem_filter.1 hu).1).2
  unfold befT
  rw [h1, h2]
  refine late_last f t (fun u hu => ?_) (cnt_dist h p m)
  have := (cnt_out (List.mem_filter.1 hu).2).2.2.1
  omega
theorem rot_mem (a : List TotD) (k : Nat) (u : TotD) : u ∈ a ↔ u ∈ a.drop k ++ a.take k := by
  conv => lhs; rw [← List.take_append_drop k a]
  rw [List.mem_append, List.mem_append, or_comm]
theorem sumA_bound (f : TotD → Int) {l : List TotD} {B : Int} (hB : ∀ t ∈ l, -B ≤ f t ∧ f t ≤ B) (n : Nat) (hn : l.length ≤ n) (h0 : 0 ≤ B) : -(B * (n : Int)) ≤ sumA f l ∧ sumA f l ≤ B * (n : Int) := by
  have hs : ∀ l : List TotD, (∀ t ∈ l, -B ≤ f t ∧ f t ≤ B) → -(B * (l.length : Int)) ≤ sumA f l ∧ sumA f l ≤ B * (l.length : Int) := by
    intro l
    induction l with
    | nil => intro _; unfold sumA; simp
    | cons a r ih =>
      intro h
      have h1 := ih fun t ht => h t (.tail _ ht)
      have h2 := h a (.head _)
      unfold sumA at h1 ⊢
      rw [List.map_cons, List.sum_cons, List.length_cons]
      have : B * ((r.length + 1 : Nat) : Int) = B * (r.length : Int) + B := by rw [Int.natCast_add, Int.mul_add]; simp
      rw [this]
      omega
  have h1 := hs l hB
  have h2 : B * (l.length : Int) ≤ B * (n : Int) := Int.mul_le_mul_of_nonneg_left (by omega) h0
  omega
end Go.Proofs.YtmebllhkfepkdaaGreatDoor
namespace Go.Proofs.YtmebllhkfepkdaaGreatDoor
open Go.RowKit Go.Shelf
set_option linter.unusedVariables false
set_option linter.unusedSimpArgs false
set_option maxRecDepth 100000
def qT (q : Quad) : TotD := madeT q.a q.b q.c q.d
def madeL (qs : List Quad) : List TotD := (qs.take 20).map qT
theorem madeL_len (qs : List Quad) : (madeL qs).length ≤ 20 := by unfold madeL; rw [List.length_map, List.length_take]; omega
theorem madeL_valid (qs : List Quad) : ∀ t ∈ madeL qs, validTB t = true := by
  intro t ht
  obtain ⟨q, _, rfl⟩ := List.mem_map.1 ht
  exact made_valid _ _ _ _
set_option maxHeartbeats 8000000 in
theorem mlist_any (A : Option Addr) (n c : Nat) (qs : List Quad) (hn : qs.length = n) (hnl : n ≤ maxLen) (hq : ∀ q ∈ qs, QuadOk q) (w : World) (hS : Sl w w.heap.size 4 A n (qs.flatMap quadV)) :
    Calls Tryz.prog 6 #[.slice A n c] w fun e w' => ∃ v, e = .returned v ∧ w'.ownsRow w.heap.size 25 5 v (madeL qs).length ((madeL qs).flatMap totL5) ∧ Below w.heap.size w w' := by
  obtain ⟨j0, hj0, hy0, hy1, hy2⟩ := info_parts info_tot
  have HS := Lib.hid hS
  have Hq := Lib.hid hq
  have Hn := Lib.hid hn
  unfold maxLen at hnl
  clear hS hq hn
  go_enter Tryz.func6, Tryz.ntmps6
  go_wp2_with fail
  go_loopw [3, 4] (fun v ix wr => ∃ k : Nat, k ≤ n ∧ k ≤ 20 ∧ ix = .int .i64 (k : Int) ∧ ∃ ts : List TotD, (qs.take k).map qT = ts ∧ ts.length = k ∧ wr.ownsRow w.heap.size 25 5 v ts.length (ts.flatMap totL5) ∧ Below w.heap.size w wr) (fun _ ix _ => n - (intOf ix).toNat)
  case atStart => exact ⟨0, Nat.zero_le _, by omega, rfl, [], rfl, rfl, ⟨rfl, .inl ⟨rfl, rfl⟩⟩, Below.refl _ _⟩
  case round =>
    obtain ⟨k, hk, hk20, rfl, ts, hts, htl, hown, hBr⟩ := hrel
    by_cases hlt : k < n ∧ k < 20
    · obtain ⟨hlt1, hlt2⟩ := hlt
      have hc1 : (k : Int) < (n : Int) := by omega
      have hc2 : (k : Int) < 20 := by omega
      obtain ⟨b, off, rfl, hb, hcell⟩ := HS.out.2 (by omega)
      have hkl : k < qs.length := by rw [Hn.out]; exact hlt1
      have hget := flat_get quadV 4 (fun _ => rfl) qs k hkl
      obtain ⟨q, hqk⟩ : ∃ q, qs[k] = q := ⟨_, rfl⟩
      have hqo := Hq.out q (by rw [← hqk]; exact List.getElem_mem hkl)
      have htk : (qs.take (k + 1)).map qT = ts ++ [qT q] := by rw [List.take_succ_eq_append_getElem hkl, hqk, List.map_append, hts]; rfl
      rw [hqk] at hget
      obtain ⟨qa, qb, qc, qd⟩ := q
      obtain ⟨t, ht⟩ : ∃ t, madeT qa qb qc qd = t := ⟨_, rfl⟩
      have htk2 : (qs.take (k + 1)).map qT = ts ++ [t] := by rw [htk, ← ht]; rfl
      have Htk := Lib.hid htk2
      obtain ⟨te, tp, tm, tg, tx⟩ := t
      have Ht := Lib.hid ht
      have u0 : wr.cell? ⟨b, off + k * 4, none⟩ = some (.int .i64 qa) := (hBr.cell (p := ⟨b, off + k * 4, none⟩) hb).trans (hcell _ _ (hget 0 (by decide)))
      have u1 : wr.cell? ⟨b, off + k * 4 + 1, none⟩ = some (.int .i64 qb) := (hBr.cell (p := ⟨b, off + k * 4 + 1, none⟩) hb).trans (hcell _ _ (hget 1 (by decide)))
      have u2 : wr.cell? ⟨b, off + k * 4 + 2, none⟩ = some (.int .i64 qc) := (hBr.cell (p := ⟨b, off + k * 4 + 2, none⟩) hb).trans (hcell _ _ (hget 2 (by decide)))
      have u3_ : wr.cell? ⟨b, off + k * 4 + 3, none⟩ = some (.int .i64 qd) := (hBr.cell (p := ⟨b, off + k * 4 + 3, none⟩) hb).trans (hcell _ _ (hget 3 (by decide)))
      have Hown := Lib.hid hown
      have Htl := Lib.hid htl
      have hqo1 := hqo.1
      have hqo2 := hqo.2.1
      have hqo3 := hqo.2.2.1
      have hqo4 := hqo.2.2.2
      have Hqo := Lib.hid (And.intro hqo1 (And.intro hqo2 (And.intro hqo3 hqo4)))
      clear hcell hget hqk hqo htk htk2 ht hown htl hts hkl hqo1 hqo2 hqo3 hqo4
      go_wp2_with fail
      refine (made_any qa qb qc qd te tp tm tg tx Ht Hqo.out.1 Hqo.out.2.1 Hqo.out.2.2.1 Hqo.out.2.2.2 wr).mono ?_
      rintro e w2 ⟨rfl, hB2⟩
      have hBw2 := bgo hBr hB2
      have own2 := own_below Hown.out hB2
      have hb0 : w.heap.size ≤ w2.heap.size := hBw2.size
      have htl1 : ts.length = k := Htl.out
      have H2 := Lib.hid (And.intro hBw2 own2)
      clear u0 u1 u2 u3_ hB2 hBw2 own2
      go_wp2_with (first
        | (at_builtin; refine app_src2 (w0 := w) w.heap.size (Nat.le_refl _) ?c0 rfl _ _ 23 rfl 25 j0 _ 5 56 Tryz.underlying23 hj0 hy0 hy1 hy2 rfl (by decide) u3 ts.length (ts.flatMap totL5) rfl (H2.out.2.alloc _) (bal H2.out.1 _) (.slice (some ⟨w2.heap.size, 0, none⟩) 1 1) 1 [.string te, .string tp, .int .i64 tm, .int .i64 tg, .int .i64 tx] rfl (block_src w2 [.string te, .string tp, .int .i64 tm, .int .i64 tg, .int .i64 tx] _ _ 1 1 5 rfl) (by simp [Value.oneCell']) (by unfold maxLen; omega) (by omega) ?_)
        | go_in)
      case c0 => first | omega | (simp; omega) | (rw [World.size_alloc]; omega)
      intro v7 w7 own7 bel7 kept7
      have Hy := Lib.hid (And.intro own7 bel7)
      clear own7 bel7 kept7
      go_wp2_with fail
      go_roundw
      case rel => exact ⟨k + 1, by omega, by omega, by go_num, ts ++ [⟨te, tp, tm, tg, tx⟩], Htk.out, by simp [Htl.out], by (have h := Hy.out.1; rw [List.flatMap_append, List.length_append, Htl.out]; exact h), Hy.out.2⟩
      case measure => simp [intOf]; omega
    · have hfin : madeL qs = ts := by
        unfold madeL
        rw [← hts]
        by_cases h : k < n
        · have : k = 20 := by omega
          rw [this]
        · have hkn : k = n := by omega
          rw [List.take_of_length_le (show qs.length ≤ 20 by rw [Hn.out]; omega), List.take_of_length_le (show qs.length ≤ k by rw [Hn.out]; omega)]
      have Hfin := Lib.hid hfin
      have Hx := Lib.hid (And.intro hown hBr)
      clear hfin hown hBr hts htl
      by_cases hc : k < n
      · have hc1 : (k : Int) < (n : Int) := by omega
        have hc2 : ¬ (k : Int) < 20 := by omega
        go_wp2
        go_ret
        exact ⟨_, rfl, by rw [Hfin.out]; exact Hx.out.1, Hx.out.2⟩
      · have hc1 : ¬ (k : Int) < (n : Int) := by omega
        go_wp2
        go_ret
        exact ⟨_, rfl, by rw [Hfin.out]; exact Hx.out.1, Hx.out.2⟩
theorem newT_succ {os : List TotD} {q : Nat} {u t : TotD} (h : os[q]? = some u) : newT (os.take (q + 1)) t = (newT (os.take q) t && (decide (u.e ≠ t.e) || decide (u.p ≠ t.p) || decide (u.m ≠ t.m))) := by
  unfold newT
  rw [List.take_add_one, h, Option.toList_some, List.all_append]
  simp
theorem str_ne {a b : ByteArray} (h : ¬ a = b) : (a.toList != b.toList) = true := by
  rw [bne_iff_ne]
  intro e
  rw [ByteArray.toList_eq, ByteArray.toList_eq] at e
  exact h (bytes_eq e)
theorem str_eqs {a b : ByteArray} (h : a = b) : (a.toList == b.toList) = true := by rw [h]; simp
theorem str_nes {a b : ByteArray} (h : ¬ a = b) : (a.toList == b.toList) = false := by
  have := str_ne h
  rw [bne] at this
  simpa using this
theorem str_same {a b : ByteArray} (h : a = b) : (a.toList != b.toList) = false := by rw [h]; simp
end Go.Proofs.YtmebllhkfepkdaaGreatDoor
namespace Go.Proofs.YtmebllhkfepkdaaGreatDoor
open Go.RowKit
set_option linter.unusedVariables false
set_option linter.unusedSimpArgs false
theorem hn_takeK {α : Type} (f : α → List Value) (c : Nat) (hf : ∀ x, (f x).length = c) : ∀ (l : List α) (k : Nat), (l.flatMap f).take (k * c) = (l.take k).flatMap f
  | [], k => by simp
  | x :: l, 0 => by simp
  | x :: l, k + 1 => by
    rw [List.flatMap_cons, List.take_succ_cons, List.flatMap_cons, ← hn_takeK f c hf l k, List.take_append, hf, Nat.add_mul, Nat.one_mul, Nat.add_sub_cancel, List.take_of_length_le (by rw [hf]; omega)]
theorem hn_dropK {α : Type} (f : α → List Value) (c : Nat) (hf : ∀ x, (f x).length = c) : ∀ (l : List α) (k : Nat), (l.flatMap f).drop (k * c) = (l.drop k).flatMap f
  | [], k => by simp
  | x :: l, 0 => by simp
  | x :: l, k + 1 => by
    rw [List.flatMap_cons, List.drop_succ_cons, ← hn_dropK f c hf l k, List.drop_append, hf, Nat.add_mul, Nat.one_mul, Nat.add_sub_cancel, List.drop_of_length_le (by rw [hf]; omega), List.nil_append]
theorem hn_src {W : World} {B size n c b off : Nat} {xs : List Value} (h : Sl W B size (some ⟨b, off, none⟩) n xs) : Src W size (.slice (some ⟨b, off, none⟩) n c) n xs := by
  refine .inr ⟨_, c, rfl, h.1, fun j u hu => ?_⟩
  rcases Nat.eq_zero_or_pos n with h0 | h0
  · have hl := h.1
    rw [h0, Nat.zero_mul] at hl
    have := (List.getElem?_eq_some_iff.1 hu).1
    omega
  · obtain ⟨b', off', e, _, hc⟩ := h.2 h0
    injection e with e; injection e with e1 e2
    subst e1; subst e2
    rw [Addr.add_lit]
    exact hc j u hu
theorem Sl.hndrop {W : World} {B size n b off : Nat} {xs : List Value} (h : Sl W B size (some ⟨b, off, none⟩) n xs) (k : Nat) (hk : k ≤ n) : Sl W B size (some ⟨b, off + k * size, none⟩) (n - k) (xs.drop (k * size)) := by
  refine ⟨by rw [List.length_drop, h.1, Nat.sub_mul], fun h0 => ?_⟩
  obtain ⟨b', off', e, hb, hc⟩ := h.2 (by omega)
  injection e with e; injection e with e1 e2
  subst e1; subst e2
  refine ⟨b, off + k * size, rfl, hb, fun j u hu => ?_⟩
  rw [List.getElem?_drop] at hu
  rw [Nat.add_assoc]
  exact hc _ _ hu
theorem hn_mk (W : World) (cur : Array Value) (k : Nat) (e : TypeId) (size : Nat) (h : cur.size = k * size) (hk : k ≤ maxLen) (base : Nat) (hb : base ≤ W.heap.size) : (W.alloc (.cells cur e)).ownsRow base e size (.slice (some ⟨W.heap.size, 0, none⟩) 0 k) 0 [] :=
  ⟨by simp, .inr ⟨W.heap.size, k, cur, rfl, hb, World.alloc_heap_new W _, Nat.zero_le _, hk, h, by simp⟩⟩
theorem own_shape {W : World} {base : Nat} {e : TypeId} {size n : Nat} {v : Value} {xs : List Value} (h : W.ownsRow base e size v n xs) :
    (v = .slice none 0 0 ∧ n = 0) ∨ ∃ b off cap, v = .slice (some ⟨b, off, none⟩) n cap ∧ Sl W W.heap.size size (some ⟨b, off, none⟩) n xs ∧ n ≤ cap ∧ cap ≤ maxLen := by
  obtain ⟨A, cap, hv, hs, h1, h2⟩ := own_slice2 h
  rcases h.2 with h3 | ⟨g, cap', cur, h3, _⟩
  · exact .inl h3
  · rw [h3] at hv
    injection hv with e1 e2 e3
    subst e1 e3
    exact .inr ⟨g, 0, cap', h3, hs, h1, h2⟩
theorem src_zero9 (W : World) (size : Nat) (a : Addr) (c : Nat) : Src W size (.slice (some a) 0 c) 0 [] := .inr ⟨a, c, rfl, by simp, fun j u hu => by simp at hu⟩
/-- Where the row lies that an append has made. -/
theorem run_where {P : Program} {W : World} (base : Nat) (t ty e : TypeId) (i : TypeInfo) (z : Value) (size bytes : Nat) (ht : P.underlying t = some (.slice e)) (hi : P.info? e = some i) (hz : i.zero = some z)
    (hsize : i.size = size) (hby : i.bytes = bytes) (v : Value) (n : Nat) (xs : List Value) (hown : W.ownsRow base e size v n xs)
    (sv : Value) (m : Nat) (cs : List Value) (hsrc : Src W size sv m cs) (h1 : ∀ u ∈ cs, u.oneCell' = true) (h0 : 0 < m) (h63 : n + m ≤ maxLen) (hbytes : (n + m) * bytes ≤ 140737488355328) {v' : Value} {w' : World}
    (hr : (Builtin.append_ #[t, t] ty #[v, sv]).run P W = .ok v' w') : v'.ownBlock = v.ownBlock ∨ v'.ownBlock = some W.heap.size := by
  subst hsize hby
  unfold maxLen at h63
  rcases hsrc with ⟨_, h, _⟩ | ⟨ad, c, rfl, hl, hc⟩
  · omega
  · rcases hown.2 with ⟨rfl, rfl⟩ | ⟨g, cap, cur, rfl, hbg, hg, hnc, hcm, hcs, htake⟩
    · have hx : xs = [] := List.eq_nil_of_length_eq_zero (by simpa using hown.1)
      subst hx
      have h := run_append_nil (P := P) W t ty e i z ht hi hz ad m c cs hl hc h0 (by omega) (by simp at hbytes; omega)
      rw [h] at hr
      injection hr with e1 e2
      rw [← e1]
      exact .inr rfl
    · by_cases hroom : n + m ≤ cap
      · have hfit : n * i.size + cs.length ≤ cur.size := by rw [hl, hcs, ← Nat.add_mul]; exact Nat.mul_le_mul_right _ hroom
        have h := run_append_room (P := P) W t ty e i ht hi g n cap cur hg ad m c cs hl hc h1 hroom hfit
        rw [h] at hr
        injection hr with e1 e2
        rw [← e1]
        exact .inl rfl
      · have holds : ∀ j u, xs[j]? = some u → W.cell? ((⟨g, 0, none⟩ : Addr).add j) = some u := hown.cells (g := g) rfl
        have h := run_append_grow (P := P) W t ty e i z ht hi hz ⟨g, 0, none⟩ n cap xs hown.1 holds ad m c cs hl hc (by omega) (by omega) (growslice_fits (by omega) hbytes)
        rw [h] at hr
        injection hr with e1 e2
        rw [← e1]
        exact .inr rfl
theorem app_src3 {P : Program} {W w0 : World} {ops : Array Oper} {rest : List Oper} {o : Oper} {a : Act} {Q : Exit → Act → World → Prop} (base : Nat) (hb0 : w0.heap.size ≤ base) (hbW : base ≤ W.heap.size) (hgd : o.guard = none) (s x : Operand) (t : TypeId)
    (ho : o.op = .call { callee := .builtin .append, args := #[s, x], argTypes := #[t, t] }) (e : TypeId) (i : TypeInfo) (z : Value) (size bytes : Nat) (ht : P.underlying t = some (.slice e)) (hi : P.info? e = some i) (hz : i.zero = some z)
    (hsize : i.size = size) (hby : i.bytes = bytes) (hzs : z.cells.size = size) (hsz : 0 < size) (v : Value) (n : Nat) (xs : List Value) (hs : a.eval s = v) (hown : W.ownsRow base e size v n xs) (hB : Below w0.heap.size w0 W)
    (sv : Value) (m : Nat) (cs : List Value) (hx : a.eval x = sv) (hsrc : Src W size sv m cs) (h1 : ∀ u ∈ cs, u.oneCell' = true) (h0 : 0 < m) (h63 : n + m ≤ maxLen) (hbytes : (n + m) * bytes ≤ 140737488355328)
    (h : ∀ v' w', w'.ownsRow base e size v' (n + m) (xs ++ cs) → Below w0.heap.size w0 w' → Kept W v w' → (v'.ownBlock = v.ownBlock ∨ v'.ownBlock = some W.heap.size) → wpList P ops Q rest (a.put o.dst v') w') : wpList P ops Q (o :: rest) a W := by
  obtain ⟨v', w', hr, h2, h3, h4⟩ := run_app2 base hb0 hbW (ty := o.type) t e i z size bytes ht hi hz hsize hby hzs hsz v n xs hown hB sv m cs hsrc h1 h63 hbytes
  have hw := run_where base t o.type e i z size bytes ht hi hz hsize hby v n xs hown sv m cs hsrc h1 h0 h63 hbytes hr
  refine wpList_plain hgd fun K hK => ?_
  unfold Oper.wp
  simp [execOp, ho, resolve, invoke, builtin, hs, hx, hr, Result.andThen]
  exact hK _ _ (h v' w' h2 h3 h4 hw)
/-- Two rows of the call's own that do not share a block. -/
def OwnApart (u v : Value) : Prop := ∀ g, u.ownBlock = some g → v.ownBlock ≠ some g
theorem OwnApart.symm {u v : Value} (h : OwnApart u v) : OwnApart v u := fun g hv hu => h g hu hv
theorem OwnApart.nil (v : Value) : OwnApart (.slice none 0 0) v := fun g h => by cases h
theorem OwnApart.app {u v v' : Value} {W : World} {base : Nat} {e : TypeId} {size n : Nat} {xs : List Value} (h : OwnApart u v) (hw : v'.ownBlock = v.ownBlock ∨ v'.ownBlock = some W.heap.size) (hu : W.ownsRow base e size u n xs) : OwnApart u v' := by
  intro g hg hv
  rcases hw with k | k
  · exact h g hg (k.symm.trans hv)
  · rw [k] at hv
    injection hv with hv
    have := (own_far' hu hg).2
    omega
theorem OwnApart.keep {W W' : World} {u v : Value} {base : Nat} {e : TypeId} {size n : Nat} {xs : List Value} (h : OwnApart u v) (hu : W.ownsRow base e size u n xs) (k : Kept W v W') : W'.ownsRow base e size u n xs :=
  own_keep hu fun g hg => k.2 g (own_far' hu hg).2 (h g hg)
end Go.Proofs.YtmebllhkfepkdaaGreatDoor
namespace Go.Proofs.YtmebllhkfepkdaaGreatDoor
open Go.RowKit Go.Shelf
set_option linter.unusedVariables false
set_option linter.unusedSimpArgs false
set_option maxRecDepth 100000
theorem Tabs.ct {w : World} (h : Tabs w) : CaT.Tabs w := h.1
theorem Tabs.ot {w : World} (h : Tabs w) : OTabs w := h.2
theorem issue_el (te tp : ByteArray) (tm tg tx : Int) (k : Nat) (hk : k < 8) (hv : Hid (validTB ⟨te, tp, tm, tg, tx⟩ = true)) (w : World) (hT : CaT.Tabs w) (hO : OTabs w) :
    Calls Tryz.prog 10 #[.string ⟨#[115, 101, 101, 100]⟩, .int .i64 3, .int .i64 (k : Int), .agg #[.string te, .string tp, .int .i64 tm, .int .i64 tg, .int .i64 tx]] w fun e w' => ∃ A ca B cb, e = .returned (.tuple #[.agg #[.string te, .string tp, .int .i64 tm, .int .i64 tg, .int .i64 tx, .int .i64 (k : Int), .slice A 18 ca, .slice B 3 cb], .int .i64 0]) ∧ IssEl w' ⟨te, tp, tm, tg, tx⟩ k ⟨⟨te, tp, tm, tg, tx⟩, (k : Int), A, 18, ca, B, 3, cb⟩ ∧ Below w.heap.size w w' := by
  have hsz := valid_sz hv.out
  have h := issue_own seedB 3 k 8 (by decide) (Lib.hid rfl) hk (by decide) te tp tm tg tx hv _ (Lib.hid rfl) _ (Lib.hid rfl) _ (Lib.hid rfl) w hsz.1 hsz.2 hT hO
  have hl : (pathL (leavesB seedB 8) (k : Int)).length = 3 := paT_len hk
  rw [hl] at h
  refine h.mono ?_
  rintro e w' ⟨A, ca, B, cb, rfl, ha, hb, hB⟩
  exact ⟨A, ca, B, cb, rfl, ⟨rfl, rfl, rfl, rfl, hk, hv.out, own_mono ha (Nat.zero_le _), own_mono hb (Nat.zero_le _)⟩, hB⟩
/-- Two elements, one after the other. -/
theorem acc_two (x y : ElM) (r : Int) (hx : validTB x.t = true) (hy : validTB y.t = true) (hr : wrongL [(x.t, x.j)] y.t y.j 0 = r) : ∃ T, accE (fun _ => true) [] [x, y] [] = (r, T) := by
  have h0 : okE (fun _ => true) [] x = 0 := by unfold okE wrongE; rw [if_pos hx, if_pos rfl]; rfl
  have h1 : okE (fun _ => true) [x] y = r := by unfold okE wrongE; rw [if_pos hy, if_pos rfl]; exact hr
  unfold accE
  rw [if_pos h0]
  rw [List.nil_append]
  unfold accE
  rw [h1]
  by_cases h : r = 0
  · rw [if_pos h, h]; unfold accE; exact ⟨_, rfl⟩
  · rw [if_neg h]; exact ⟨_, rfl⟩
theorem wl_key (x y : TotD) (k : Int) : wrongL [(x, k)] y k 0 = if x = y then 0 else 251 := by
  unfold wrongL
  dsimp only
  split
  · unfold wrongL; rfl
  · rw [if_pos rfl]
theorem wl_twice (x y : TotD) (k n : Int) (hne : ¬ k = n) (h : x.e = y.e ∧ x.p = y.p ∧ x.m = y.m) : wrongL [(x, k)] y n 0 = if x = y then 0 else 5 := by
  unfold wrongL
  dsimp only
  split
  · unfold wrongL; rfl
  · unfold wrongL
    rfl
end Go.Proofs.YtmebllhkfepkdaaGreatDoor
