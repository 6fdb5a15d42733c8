/- The walk of HandoverAccepts. -/
import Derived.Test.YtmebllhkfepkdaaDoorQ25
import Derived.Deep.DeepCutAuto
import Derived.Deep.CutBlock
import Derived.IntWalk
namespace Go.Proofs.YtmebllhkfepkdaaDoor
open Go.RowKit Go.Shelf
set_option linter.unusedVariables false
set_option linter.unusedSimpArgs false
set_option maxRecDepth 100000
def mkT16 : Array Value := #[.string ⟨#[]⟩, .string ⟨#[]⟩, .int .i64 0, .int .i64 0, .int .i64 0, .string ⟨#[]⟩, .string ⟨#[]⟩, .int .i64 0, .int .i64 0, .int .i64 0, .string ⟨#[]⟩, .string ⟨#[]⟩, .int .i64 0, .int .i64 0, .int .i64 0, .string ⟨#[]⟩, .string ⟨#[]⟩, .int .i64 0, .int .i64 0, .int .i64 0, .string ⟨#[]⟩, .string ⟨#[]⟩, .int .i64 0, .int .i64 0, .int .i64 0, .string ⟨#[]⟩, .string ⟨#[]⟩, .int .i64 0, .int .i64 0, .int .i64 0, .string ⟨#[]⟩, .string ⟨#[]⟩, .int .i64 0, .int .i64 0, .int .i64 0, .string ⟨#[]⟩, .string ⟨#[]⟩, .int .i64 0, .int .i64 0, .int .i64 0, .string ⟨#[]⟩, .string ⟨#[]⟩, .int .i64 0, .int .i64 0, .int .i64 0, .string ⟨#[]⟩, .string ⟨#[]⟩, .int .i64 0, .int .i64 0, .int .i64 0, .string ⟨#[]⟩, .string ⟨#[]⟩, .int .i64 0, .int .i64 0, .int .i64 0, .string ⟨#[]⟩, .string ⟨#[]⟩, .int .i64 0, .int .i64 0, .int .i64 0, .string ⟨#[]⟩, .string ⟨#[]⟩, .int .i64 0, .int .i64 0, .int .i64 0, .string ⟨#[]⟩, .string ⟨#[]⟩, .int .i64 0, .int .i64 0, .int .i64 0, .string ⟨#[]⟩, .string ⟨#[]⟩, .int .i64 0, .int .i64 0, .int .i64 0, .string ⟨#[]⟩, .string ⟨#[]⟩, .int .i64 0, .int .i64 0, .int .i64 0]
def mkE16 : Array Value := #[.string ⟨#[]⟩, .string ⟨#[]⟩, .int .i64 0, .int .i64 0, .int .i64 0, .int .i64 0, .slice none 0 0, .slice none 0 0, .string ⟨#[]⟩, .string ⟨#[]⟩, .int .i64 0, .int .i64 0, .int .i64 0, .int .i64 0, .slice none 0 0, .slice none 0 0, .string ⟨#[]⟩, .string ⟨#[]⟩, .int .i64 0, .int .i64 0, .int .i64 0, .int .i64 0, .slice none 0 0, .slice none 0 0, .string ⟨#[]⟩, .string ⟨#[]⟩, .int .i64 0, .int .i64 0, .int .i64 0, .int .i64 0, .slice none 0 0, .slice none 0 0, .string ⟨#[]⟩, .string ⟨#[]⟩, .int .i64 0, .int .i64 0, .int .i64 0, .int .i64 0, .slice none 0 0, .slice none 0 0, .string ⟨#[]⟩, .string ⟨#[]⟩, .int .i64 0, .int .i64 0, .int .i64 0, .int .i64 0, .slice none 0 0, .slice none 0 0, .string ⟨#[]⟩, .string ⟨#[]⟩, .int .i64 0, .int .i64 0, .int .i64 0, .int .i64 0, .slice none 0 0, .slice none 0 0, .string ⟨#[]⟩, .string ⟨#[]⟩, .int .i64 0, .int .i64 0, .int .i64 0, .int .i64 0, .slice none 0 0, .slice none 0 0, .string ⟨#[]⟩, .string ⟨#[]⟩, .int .i64 0, .int .i64 0, .int .i64 0, .int .i64 0, .slice none 0 0, .slice none 0 0, .string ⟨#[]⟩, .string ⟨#[]⟩, .int .i64 0, .int .i64 0, .int .i64 0, .int .i64 0, .slice none 0 0, .slice none 0 0, .string ⟨#[]⟩, .string ⟨#[]⟩, .int .i64 0, .int .i64 0, .int .i64 0, .int .i64 0, .slice none 0 0, .slice none 0 0, .string ⟨#[]⟩, .string ⟨#[]⟩, .int .i64 0, .int .i64 0, .int .i64 0, .int .i64 0, .slice none 0 0, .slice none 0 0, .string ⟨#[]⟩, .string ⟨#[]⟩, .int .i64 0, .int .i64 0, .int .i64 0, .int .i64 0, .slice none 0 0, .slice none 0 0, .string ⟨#[]⟩, .string ⟨#[]⟩, .int .i64 0, .int .i64 0, .int .i64 0, .int .i64 0, .slice none 0 0, .slice none 0 0, .string ⟨#[]⟩, .string ⟨#[]⟩, .int .i64 0, .int .i64 0, .int .i64 0, .int .i64 0, .slice none 0 0, .slice none 0 0, .string ⟨#[]⟩, .string ⟨#[]⟩, .int .i64 0, .int .i64 0, .int .i64 0, .int .i64 0, .slice none 0 0, .slice none 0 0]
/-- The law's lists: the totals that were issued. -/
structure LsC (T : List TotD) (m : Nat) : Prop where
  len : T.length = m
  va : ∀ t ∈ T, validTB t = true
  ap : T.Pairwise ApartT
def SlTake (W : World) (T8 : List TotD) (m : Nat) (v : Value) : Prop := ∃ A c, v = .slice A m c ∧ Sl W W.heap.size 5 A m (T8.flatMap totL5) ∧ ((v = .slice none 0 0 ∧ m = 0) ∨ ∃ b off, A = some ⟨b, off, none⟩) ∧ m ≤ c ∧ c ≤ maxLen
set_option maxHeartbeats 16000000 in
theorem handoverAccepts_walk (A0 : Option Addr) (c0 : Nat) (qs : List Quad) (byi : Int) (w : World) (S0 : Sl w w.heap.size 4 A0 qs.length (qs.flatMap quadV)) (l0 : qs.length ≤ c0 ∧ c0 ≤ maxLen) (e0 : ∀ q ∈ qs, QuadOk q)
    (wb : (Lit.int .i64 byi).wf = true) (hT : Tabs w) :
    Calls Tryd.prog 4 #[.slice A0 qs.length c0, .int .i64 byi] w fun e w' => e = .returned (.bool true) ∧ Below w.heap.size w w' := by
  replace wb : I64 byi := bounds_i64 wb
  obtain ⟨j0, hj0, hj1, hj2, hj3⟩ := info_parts info_tot
  obtain ⟨i0, hi0, hi1, hi2, hi3⟩ := info_parts info_sgd
  obtain ⟨n0, hn0⟩ : ∃ n, n = qs.length := ⟨_, rfl⟩
  have hn0l : n0 ≤ maxLen := by rw [hn0]; exact Nat.le_trans l0.1 l0.2
  rw [← hn0] at S0 ⊢
  have Hn0 := Lib.hid hn0.symm
  have HS0 := Lib.hid S0
  have He0 := Lib.hid e0
  have HT := Lib.hid hT
  have Hn0l := Lib.hid hn0l
  obtain ⟨T, hTd⟩ : ∃ T, distT (madeL qs) = T := ⟨_, rfl⟩
  obtain ⟨N, hN⟩ : ∃ N, T.length = N := ⟨_, rfl⟩
  have hN20 : N ≤ 20 := by rw [← hN, ← hTd]; exact Nat.le_trans (distT_len _) (madeL_len qs)
  obtain ⟨m, hm⟩ : ∃ m, min N 8 = m := ⟨_, rfl⟩
  have hm8 : m ≤ 8 ∧ m ≤ N := by omega
  obtain ⟨T8, hT8⟩ : ∃ l, T.take m = l := ⟨_, rfl⟩
  have hva : ∀ t ∈ T, validTB t = true := by rw [← hTd]; exact fun t ht => madeL_valid qs t (distT_mem ht)
  have hap : T.Pairwise ApartT := by rw [← hTd]; exact distT_apart _
  have hLs : LsC T8 m := ⟨by rw [← hT8, List.length_take, hN]; omega, fun t ht => hva t (by rw [← hT8] at ht; exact List.mem_of_mem_take ht), by rw [← hT8]; exact hap.sublist (List.take_sublist _ _)⟩
  have HL := Lib.hid hLs
  have HTd := Lib.hid hTd
  have HN := Lib.hid hN
  have HT8 := Lib.hid hT8
  have hmi : (if (8 : Int) < (N : Int) then 8 else (N : Int)) = (m : Int) := by split <;> omega
  have hmi2 : min (N : Int) 8 = (m : Int) := by omega
  have Hmi := Lib.hid (And.intro hmi hmi2)
  obtain ⟨k, hk⟩ : ∃ k : Nat, pickF byi ((m : Int) + 1) = (k : Int) := ⟨(pickF byi ((m : Int) + 1)).toNat, by have := pickF_lt byi ((m : Int) + 1) (by omega); omega⟩
  have hkm : k ≤ m := by have := pickF_lt byi ((m : Int) + 1) (by omega); omega
  have Hk := Lib.hid hk
  obtain ⟨rt, hrt⟩ : ∃ r, root29 = r := ⟨_, rfl⟩
  have Hrt := Lib.hid hrt
  clear hn0 S0 e0 hT hTd hN hm hLs hT8 hva hap hk hn0l l0 hmi hmi2 hrt
  go_enter Tryd.func4, Tryd.ntmps4
  go_wp2_with fail
  refine (head29_any w HT.out.1 HT.out.2).mono ?_
  rintro e w1 ⟨rfl, hB1⟩
  have H1 := Lib.hid hB1
  clear hB1
  go_wp2_with fail
  refine (mlist_any A0 n0 c0 qs Hn0.out Hn0l.out He0.out w1 (HS0.out.go H1.out)).mono ?_
  rintro e w2 ⟨v1, rfl, own1, hB2⟩
  obtain ⟨A1, c1, rfl, sl1, cp1, cp2⟩ := own_slice2 own1
  have H2 := Lib.hid (And.intro (bgo H1.out hB2) sl1)
  clear own1 hB2 sl1 cp1 cp2
  go_wp2_with fail
  refine (dist_any A1 _ c1 (madeL qs) rfl (Nat.le_trans (madeL_len qs) (by decide)) w2 H2.out.2).mono ?_
  rintro e w3 ⟨v2, rfl, own2, hB3⟩
  rw [HTd.out, HN.out] at own2
  have H3 := Lib.hid (And.intro (bgo H2.out.1 hB3) own2)
  clear own2 hB3
  go_upto_region 3 with fail
  go_cut [6] (fun v wc => wc = w3 ∧ SlTake w3 T8 m v)
  case first =>
    have hmi := Hmi.out.1
    have hmi2 := Hmi.out.2
    rcases own_shape H3.out.2 with ⟨hnil, hN0⟩ | ⟨bb, off, cap, hsome, slS, hcp1, hcp2⟩
    · subst hnil hN0
      have hm0 : m = 0 := by omega
      subst hm0
      go_wp2_with fail
      go_meet
      exact ⟨rfl, none, 0, rfl, by (have := HT8.out; rw [List.take_zero] at this; rw [← this]; exact Sl.nil _ 5), .inl ⟨rfl, rfl⟩, Nat.le_refl _, Nat.zero_le _⟩
    · subst hsome
      have hk1 : 0 ≤ (m : Int) ∧ (m : Int) ≤ (cap : Int) := by omega
      have HSS := Lib.hid slS
      have Hcp := Lib.hid (And.intro hcp1 hcp2)
      clear slS hcp2
      go_wp2_with fail
      go_meet
      exact ⟨rfl, _, _, rfl, by (have h := HSS.out.take m hm8.2; rw [hn_takeK totL5 5 (fun _ => rfl), HT8.out] at h; exact h), .inr ⟨bb, off, rfl⟩, by omega, Hcp.out.2⟩
  case rest =>
  obtain ⟨rfl, A3, c3, rfl, sl3, hsh3, cp31, cp32⟩ := hcut
  have HS3 := Lib.hid sl3
  have Hsh3 := Lib.hid hsh3
  have Hc3 := Lib.hid cp32
  clear sl3 hsh3 cp32 Hmi
  go_wp2_with fail
  refine (issued_any A3 m c3 T8 HL.out.len (by omega) HL.out.va wc (HT.out.go H3.out.1).1 (HT.out.go H3.out.1).2 HS3.out).mono ?_
  rintro e w4 ⟨v4, es, rfl, own4, hiss, hB4⟩
  rw [Hrt.out]
  have hF := iss_f hiss HL.out.len hm8.1 HL.out.ap
  rw [hF.len] at own4
  obtain ⟨A4, c4, rfl, sl4, cp41, cp42⟩ := own_slice2 own4
  have hsh4 := own_shape own4
  have H4 := Lib.hid (And.intro (bgo H3.out.1 hB4) (And.intro (HS3.out.go hB4) (And.intro sl4 hF)))
  have Hsh4 := Lib.hid hsh4
  have Hc4 := Lib.hid cp42
  clear own4 hiss hB4 hF sl4 hsh4 cp42
  have hne : ((m : Int) != (m : Int)) = false := by simp
  go_wp2_with fail
  have hel : ∀ z ∈ es, ElOk w4 rt 3 (fun _ => true) z := by rw [← Hrt.out]; exact H4.out.2.2.2.ok
  refine (accept_any rt 3 A4 c4 m es H4.out.2.2.2.len (fun _ => true) 0 T8 (Lib.hid H4.out.2.2.2.acc1) w4 (HT.out.go H4.out.1).1 (HT.out.go H4.out.1).2 H4.out.2.2.1 hel ⟨cp41, Hc4.out⟩ (by omega)).mono ?_
  rintro e w5 ⟨va, rfl, owna, hB5⟩
  rw [HL.out.len] at owna
  obtain ⟨Aa, ca, rfl, sla, _, _⟩ := own_slice2 owna
  have H5 := Lib.hid (And.intro (bgo H4.out.1 hB5) (And.intro (H4.out.2.1.go hB5) (And.intro (H4.out.2.2.1.go hB5) (And.intro (H4.out.2.2.2.go hB5) sla))))
  clear hel owna hB5 sla
  have hmkE : ∀ w, (Instr.makeSlice 43 (.int .i64 0) (.int .i64 16)).run Tryd.prog w = .ok (.slice (some ⟨w.heap.size, 0, none⟩) 0 16) (w.alloc (.cells mkE16 34)) := fun _ => by kernel_rfl
  have Hsrc4 : Hid (∀ W, Below w5.heap.size w5 W → Src W 8 (.slice A4 m c4) m (es.flatMap elV)) := Lib.hid fun W hW => by
    rcases Hsh4.out with ⟨h1, h2⟩ | ⟨b, off, cap, h1, h2, _⟩
    · injection h1 with e1 e2 e3
      subst e1 e2 e3
      exact .inl ⟨rfl, rfl, by (have := H4.out.2.2.2.len; rw [List.eq_nil_of_length_eq_zero this]; rfl)⟩
    · injection h1 with e1 e2 e3
      subst e1 e3
      exact hn_src (H5.out.2.2.1.go hW)
  go_upto_region 8 with fail
  go_wp2_with (first
    | (at_builtin; refine app_src2 (w0 := w5) w5.heap.size (Nat.le_refl _) ?c0 rfl _ _ 43 rfl 34 i0 _ 8 112 Tryd.underlying43 hi0 hi1 hi2 hi3 rfl (by decide) (.slice (some ⟨w5.heap.size, 0, none⟩) 0 16) 0 [] rfl (hn_mk w5 mkE16 16 34 8 rfl (by decide) _ (Nat.le_refl _)) (bal (Below.refl _ _) _) (.slice A4 m c4) m (es.flatMap elV) rfl (Hsrc4.out _ (bal (Below.refl _ _) _)) (els_one _) (by unfold maxLen; omega) (by omega) ?_)
    | go_in)
  case c0 => first | omega | (simp; omega) | (rw [World.size_alloc]; omega)
  intro v6 w6 own6 bel6 kept6
  have hb6 : w5.heap.size ≤ w6.heap.size := bel6.size
  have H6 := Lib.hid (And.intro own6 bel6)
  clear own6 bel6 kept6
  go_wp2_with (first
    | (at_builtin; refine app_src2 (w0 := w5) w5.heap.size (Nat.le_refl _) hb6 rfl _ _ 43 rfl 34 i0 _ 8 112 Tryd.underlying43 hi0 hi1 hi2 hi3 rfl (by decide) v6 m (es.flatMap elV) rfl H6.out.1 H6.out.2 (.slice A4 m c4) m (es.flatMap elV) rfl (Hsrc4.out _ H6.out.2) (els_one _) (by unfold maxLen; omega) (by omega) ?_)
    | go_in)
  intro v7 w7 own7 bel7 kept7
  have own7' : w7.ownsRow w5.heap.size 34 8 v7 (m + m) ((es ++ es).flatMap elV) := by (have h := own7; rw [List.flatMap_append]; exact h)
  obtain ⟨A7, c7, rfl, sl7, cp71, cp72⟩ := own_slice2 own7'
  have H7 := Lib.hid (And.intro (bgo H5.out.1 bel7) (And.intro (H5.out.2.1.go bel7) (And.intro (H5.out.2.2.1.go bel7) (And.intro (H5.out.2.2.2.1.go bel7) (And.intro (H5.out.2.2.2.2.go bel7) sl7)))))
  have Hc7 := Lib.hid cp72
  have H57 := Lib.hid bel7
  clear own7 own7' bel7 kept7 sl7 cp72 H6 hb6
  go_wp2_with fail
  have hel : ∀ z ∈ es ++ es, ElOk w7 rt 3 (fun _ => true) z := by rw [← Hrt.out]; exact H7.out.2.2.2.1.ok2
  refine (accept_any rt 3 A7 c7 (m + m) (es ++ es) (by rw [List.length_append, H7.out.2.2.2.1.len]) (fun _ => true) 0 T8 (Lib.hid H7.out.2.2.2.1.acc2) w7 (HT.out.go H7.out.1).1 (HT.out.go H7.out.1).2 H7.out.2.2.2.2.2 hel ⟨cp71, Hc7.out⟩ (by omega)).mono ?_
  rintro e w8 ⟨vb, rfl, ownb, hB8⟩
  rw [HL.out.len] at ownb
  obtain ⟨Ab, cb, rfl, slb, _, _⟩ := own_slice2 ownb
  have H8 := Lib.hid (And.intro (bgo H7.out.1 hB8) (And.intro (H7.out.2.1.go hB8) (And.intro (H7.out.2.2.1.go hB8) (And.intro (H7.out.2.2.2.1.go hB8) (And.intro (H7.out.2.2.2.2.1.go hB8) slb)))))
  have H58 := Lib.hid (bgo H57.out hB8)
  clear hel ownb hB8 slb cp71
  go_wp2_with fail
  refine (pick_at byi ((m : Int) + 1) (k : Int) Hk w8 wb (by omega) (by omega)).mono ?_
  rintro e wq ⟨rfl, hwq⟩
  obtain rfl := hwq
  go_upto_region 10 with fail
  obtain ⟨wb8, hwb8⟩ : ∃ z, z = w8 := ⟨_, rfl⟩
  clear hwb8 wb8
  go_cut [15, 16] (fun p q wc => (∃ A c, p = .slice A m c ∧ Sl wc wc.heap.size 5 A m ((T8.drop k ++ T8.take k).flatMap totL5)) ∧ q = .int .i64 0 ∧ Below w8.heap.size w8 wc)
  case first =>
    have hrl : (es.drop k ++ es.take k).length = m := by rw [List.length_append, List.length_drop, List.length_take, H8.out.2.2.2.1.len]; omega
    have Hrl := Lib.hid hrl
    have Hacc := Lib.hid (H8.out.2.2.2.1.acc3 k)
    clear hrl
    have hrtl : (T8.drop k ++ T8.take k).length = m := by rw [List.length_append, List.length_drop, List.length_take, HL.out.len]; omega
    have Hrtl := Lib.hid hrtl
    clear hrtl
    rcases Hsh4.out with ⟨hnil, hN0⟩ | ⟨bb, off, cap, hsome, _, hcp1, hcp2⟩
    · injection hnil with e1 e2 e3
      subst e1 e3 hN0
      have hk0 : k = 0 := by omega
      subst hk0
      have Hnil : Hid (es = []) := Lib.hid (List.eq_nil_of_length_eq_zero H8.out.2.2.2.1.len)
      refine wp_region_noPanic ?_
      refine wp_region_held_drew (S := fun _ => True) (by kernel_rfl) trivial (fun hHeld => ?_)
      refine wpAnyH_take (i := 0) (v := ?_) rfl (by kernel_rfl) (by kernel_rfl) (by kernel_rfl) (fun _ _ _ h => h) (Or.inl ⟨by kernel_rfl, ?_⟩) (by assumption) ?_
      rotate_left
      · intro w hSw
        (try dsimp only at hSw)
        go_simp
        first | done | with_reducible rfl
      simp only [List.getElem_toArray, List.getElem_cons_zero, List.getElem_cons_succ, Act.put, List.setIfInBounds_toArray, List.set_cons_zero, List.set_cons_succ]
      refine wpAnyH_take (i := 2) (v := ?_) rfl (by kernel_rfl) (by kernel_rfl) (by kernel_rfl) (fun _ _ _ h => h) (Or.inl ⟨by kernel_rfl, ?_⟩) (by assumption) ?_
      rotate_left
      · intro w hSw
        (try dsimp only at hSw)
        go_simp
        first | done | with_reducible rfl
      simp only [List.getElem_toArray, List.getElem_cons_zero, List.getElem_cons_succ, Act.put, List.setIfInBounds_toArray, List.set_cons_zero, List.set_cons_succ]
      refine wpAnyH_take (i := 3) (v := ?_) rfl (by kernel_rfl) (by kernel_rfl) (by kernel_rfl) (fun _ _ _ h => h) (Or.inl ⟨by kernel_rfl, ?_⟩) (by assumption) ?_
      rotate_left
      · intro w hSw
        (try dsimp only at hSw)
        go_simp
        first | done | with_reducible rfl
      simp only [List.getElem_toArray, List.getElem_cons_zero, List.getElem_cons_succ, Act.put, List.setIfInBounds_toArray, List.set_cons_zero, List.set_cons_succ]
      refine wpAnyH_take (i := 4) (v := .slice none 0 0) rfl (by kernel_rfl) (by kernel_rfl) (by kernel_rfl) (fun _ _ _ h => h) (Or.inl ⟨by kernel_rfl, ?_⟩) (by assumption) ?_
      · intro w hSw
        (try dsimp only at hSw)
        go_simp
        first | done | with_reducible rfl
      simp only [List.getElem_toArray, List.getElem_cons_zero, List.getElem_cons_succ, Act.put, List.setIfInBounds_toArray, List.set_cons_zero, List.set_cons_succ]
      refine wpAnyH_take (i := 6) (v := ?_) rfl (by kernel_rfl) (by kernel_rfl) (by kernel_rfl) (fun _ _ _ h => h) (Or.inl ⟨by kernel_rfl, ?_⟩) (by assumption) ?_
      rotate_left
      · intro w hSw
        (try dsimp only at hSw)
        go_simp
        first | done | with_reducible rfl
      simp only [List.getElem_toArray, List.getElem_cons_zero, List.getElem_cons_succ, Act.put, List.setIfInBounds_toArray, List.set_cons_zero, List.set_cons_succ]
      refine wpAnyH_take (i := 7) (v := ?_) rfl (by kernel_rfl) (by kernel_rfl) (by kernel_rfl) (fun _ _ _ h => h) (Or.inl ⟨by kernel_rfl, ?_⟩) (by assumption) ?_
      rotate_left
      · intro w hSw
        (try dsimp only at hSw)
        go_simp
        first | done | with_reducible rfl
      simp only [List.getElem_toArray, List.getElem_cons_zero, List.getElem_cons_succ, Act.put, List.setIfInBounds_toArray, List.set_cons_zero, List.set_cons_succ]
      refine wpAnyH_take (i := 8) (v := .slice none 0 0) rfl (by kernel_rfl) (by kernel_rfl) (by kernel_rfl) (fun _ _ _ h => h) (Or.inl ⟨by kernel_rfl, ?_⟩) (by assumption) ?_
      · intro w hSw
        (try dsimp only at hSw)
        go_simp
        first | done | with_reducible rfl
      simp only [List.getElem_toArray, List.getElem_cons_zero, List.getElem_cons_succ, Act.put, List.setIfInBounds_toArray, List.set_cons_zero, List.set_cons_succ]
      refine wpAnyH_ready (rs := [1]) (by kernel_rfl) (by simp) ?_
      refine AllReadyH.cons rfl (fun K hK => ?_) ?_
      · simp only [List.getElem_toArray, List.getElem_cons_zero, List.getElem_cons_succ]
        go_simp
        obtain ⟨w_0, hw_0⟩ : ∃ x, x = (w8.alloc (.cells mkE16 34)).drew := ⟨_, rfl⟩
        rw [← hw_0]
        have own_0 : w_0.ownsRow w8.heap.size 34 8 (.slice (some ⟨w8.heap.size, 0, none⟩) 0 16) 0 [] := by rw [hw_0]; exact hn_mk w8 mkE16 16 34 8 rfl (by decide) _ (Nat.le_refl _)
        have bel_0 : Below w8.heap.size w8 w_0 := by rw [hw_0]; exact (bal (Below.refl w8.heap.size w8) _).drew
        clear hw_0
        refine hK.out _ _ trivial (fun hHeld => ?_)
        clear hK K
        try simp only [List.getElem_toArray, List.getElem_cons_zero, List.getElem_cons_succ, Act.put, List.setIfInBounds_toArray, List.set_cons_zero, List.set_cons_succ]
        refine wpAnyH_ready (rs := [5]) (by kernel_rfl) (by simp) ?_
        refine AllReadyH.cons rfl (fun K hK => ?_) ?_
        · refine step_src (w0 := w8) (by rfl) _ _ 43 (by rfl) 34 i0 _ 8 112 Tryd.underlying43 hi0 hi1 hi2 hi3 (by rfl) (by decide) (.slice (some ⟨w8.heap.size, 0, none⟩) 0 16) (0) ([]) (by rfl) own_0 bel_0 (.slice none 0 0) (0) ([]) (by rfl) (.inl ⟨rfl, rfl, rfl⟩) (fun u hu => by cases hu) (by unfold maxLen; omega) (by omega) ?_
          intro v5_ w5_ own5_ bel5_ kept5_
          refine hK.out _ _ trivial (fun hHeld => ?_)
          clear hK K
          try simp only [List.getElem_toArray, List.getElem_cons_zero, List.getElem_cons_succ, Act.put, List.setIfInBounds_toArray, List.set_cons_zero, List.set_cons_succ]
          refine wpAnyH_ready (rs := [9]) (by kernel_rfl) (by simp) ?_
          refine AllReadyH.cons rfl (fun K hK => ?_) ?_
          · refine step_src (w0 := w8) (by rfl) _ _ 43 (by rfl) 34 i0 _ 8 112 Tryd.underlying43 hi0 hi1 hi2 hi3 (by rfl) (by decide) (v5_) (0 + (0)) ([] ++ ([])) (by rfl) own5_ bel5_ (.slice none 0 0) (0) ([]) (by rfl) (.inl ⟨rfl, rfl, rfl⟩) (fun u hu => by cases hu) (by unfold maxLen; omega) (by omega) ?_
            intro v6_ w6_ own6_ bel6_ kept6_
            have own7_ : w6_.ownsRow w8.heap.size 34 8 v6_ 0 ((es.drop 0 ++ es.take 0).flatMap elV) := by (have h := own6_; rw [Hnil.out]; exact h)
            obtain ⟨A7_, c7_, hv7_, sl7_, cp7_1, cp7_2⟩ := own_slice2 own7_
            subst hv7_
            refine hK.out _ _ trivial (fun hHeld => ?_)
            clear hK K
            try simp only [List.getElem_toArray, List.getElem_cons_zero, List.getElem_cons_succ, Act.put, List.setIfInBounds_toArray, List.set_cons_zero, List.set_cons_succ]
            refine wpAnyH_ready (rs := [10]) (by kernel_rfl) (by simp) ?_
            refine AllReadyH.cons rfl (fun K hK => ?_) ?_
            · simp only [List.getElem_toArray, List.getElem_cons_zero, List.getElem_cons_succ]
              go_simp
              have hel : ∀ z ∈ es.drop 0 ++ es.take 0, ElOk w6_ rt 3 (fun _ => true) z := by rw [← Hrt.out]; exact (H8.out.2.2.2.1.go bel6_).okr 0
              (with_reducible refine (accept_any rt 3 A7_ c7_ 0 (es.drop 0 ++ es.take 0) Hrl.out (fun _ => true) 0 (T8.drop 0 ++ T8.take 0) Hacc w6_ (HT.out.go (bgo H8.out.1 bel6_)).ct (HT.out.go (bgo H8.out.1 bel6_)).ot sl7_ hel ⟨cp7_1, cp7_2⟩ (by omega)).mono ?_)
              rintro e w8_ ⟨v8_, rfl, own8_, hB8_⟩
              dsimp only
              refine hK.out _ _ trivial (fun hHeld => ?_)
              clear hK K
              try simp only [List.getElem_toArray, List.getElem_cons_zero, List.getElem_cons_succ, Act.put, List.setIfInBounds_toArray, List.set_cons_zero, List.set_cons_succ]
              refine wpAnyH_take (i := 11) (v := ?_) rfl (by kernel_rfl) (by kernel_rfl) (by kernel_rfl) (fun _ _ _ h => h) (Or.inl ⟨by kernel_rfl, ?_⟩) (by assumption) ?_
              rotate_left
              · intro w hSw
                (try dsimp only at hSw)
                go_simp
                first | done | with_reducible rfl
              simp only [List.getElem_toArray, List.getElem_cons_zero, List.getElem_cons_succ, Act.put, List.setIfInBounds_toArray, List.set_cons_zero, List.set_cons_succ]
              refine wpAnyH_take (i := 12) (v := ?_) rfl (by kernel_rfl) (by kernel_rfl) (by kernel_rfl) (fun _ _ _ h => h) (Or.inl ⟨by kernel_rfl, ?_⟩) (by assumption) ?_
              rotate_left
              · intro w hSw
                (try dsimp only at hSw)
                go_simp
                first | done | with_reducible rfl
              simp only [List.getElem_toArray, List.getElem_cons_zero, List.getElem_cons_succ, Act.put, List.setIfInBounds_toArray, List.set_cons_zero, List.set_cons_succ]
              refine wpAnyH_take (i := 13) (v := ?_) rfl (by kernel_rfl) (by kernel_rfl) (by kernel_rfl) (fun _ _ _ h => h) (Or.inl ⟨by kernel_rfl, ?_⟩) (by assumption) ?_
              rotate_left
              · intro w hSw
                (try dsimp only at hSw)
                go_simp
                first | done | with_reducible rfl
              simp only [List.getElem_toArray, List.getElem_cons_zero, List.getElem_cons_succ, Act.put, List.setIfInBounds_toArray, List.set_cons_zero, List.set_cons_succ]
              refine wpAnyH_take (i := 14) (v := ?_) rfl (by kernel_rfl) (by kernel_rfl) (by kernel_rfl) (fun _ _ _ h => h) (Or.inl ⟨by kernel_rfl, ?_⟩) (by assumption) ?_
              rotate_left
              · intro w hSw
                (try dsimp only at hSw)
                go_simp
                first | done | with_reducible rfl
              simp only [List.getElem_toArray, List.getElem_cons_zero, List.getElem_cons_succ, Act.put, List.setIfInBounds_toArray, List.set_cons_zero, List.set_cons_succ]
              refine wpAnyH_take (i := 15) (v := ?_) rfl (by kernel_rfl) (by kernel_rfl) (by kernel_rfl) (fun _ _ _ h => h) (Or.inl ⟨by kernel_rfl, ?_⟩) (by assumption) ?_
              rotate_left
              · intro w hSw
                (try dsimp only at hSw)
                go_simp
                first | done | with_reducible rfl
              simp only [List.getElem_toArray, List.getElem_cons_zero, List.getElem_cons_succ, Act.put, List.setIfInBounds_toArray, List.set_cons_zero, List.set_cons_succ]
              refine wpAnyH_done (by kernel_rfl) ?_ _
              dsimp only [NoPanic]
              clear hHeld
              rw [Hrtl.out] at own8_
              obtain ⟨A9_, c9_, hv9_, sl9_, _, _⟩ := own_slice2 own8_
              subst hv9_
              go_wp2_with fail
              go_meet
              exact ⟨⟨_, _, rfl, sl9_⟩, rfl, bgo bel6_ hB8_⟩
            exact AllReadyH.nil
          exact AllReadyH.nil
        exact AllReadyH.nil
      exact AllReadyH.nil
    · injection hsome with e1 e2 e3
      subst e1 e3
      have HSS := Lib.hid H8.out.2.2.1
      have hk1 : 0 ≤ (k : Int) ∧ (k : Int) ≤ (c4 : Int) := by omega
      have hk2 : 0 ≤ (k : Int) ∧ (k : Int) ≤ (m : Int) := by omega
      by_cases hck : c4 = k
      · have Hz0 : Hid (m - k = 0) := Lib.hid (by omega)
        have Hdr0 : Hid (es.drop k = []) := Lib.hid (List.drop_eq_nil_of_le (by rw [H8.out.2.2.2.1.len]; omega))
        have Hck := Lib.hid hck
        clear hck
        refine wp_region_noPanic ?_
        refine wp_region_held_drew (S := fun _ => True) (by kernel_rfl) trivial (fun hHeld => ?_)
        refine wpAnyH_take (i := 0) (v := ?_) rfl (by kernel_rfl) (by kernel_rfl) (by kernel_rfl) (fun _ _ _ h => h) (Or.inl ⟨by kernel_rfl, ?_⟩) (by assumption) ?_
        rotate_left
        · intro w hSw
          (try dsimp only at hSw)
          go_simp
          first | done | with_reducible rfl
        simp only [List.getElem_toArray, List.getElem_cons_zero, List.getElem_cons_succ, Act.put, List.setIfInBounds_toArray, List.set_cons_zero, List.set_cons_succ]
        refine wpAnyH_take (i := 2) (v := ?_) rfl (by kernel_rfl) (by kernel_rfl) (by kernel_rfl) (fun _ _ _ h => h) (Or.inl ⟨by kernel_rfl, ?_⟩) (by assumption) ?_
        rotate_left
        · intro w hSw
          (try dsimp only at hSw)
          go_simp
          first | done | with_reducible rfl
        simp only [List.getElem_toArray, List.getElem_cons_zero, List.getElem_cons_succ, Act.put, List.setIfInBounds_toArray, List.set_cons_zero, List.set_cons_succ]
        refine wpAnyH_take (i := 3) (v := ?_) rfl (by kernel_rfl) (by kernel_rfl) (by kernel_rfl) (fun _ _ _ h => h) (Or.inl ⟨by kernel_rfl, ?_⟩) (by assumption) ?_
        rotate_left
        · intro w hSw
          (try dsimp only at hSw)
          go_simp
          first | done | with_reducible rfl
        simp only [List.getElem_toArray, List.getElem_cons_zero, List.getElem_cons_succ, Act.put, List.setIfInBounds_toArray, List.set_cons_zero, List.set_cons_succ]
        refine wpAnyH_take (i := 4) (v := .slice (some ⟨bb, off, none⟩) (m - k) 0) rfl (by kernel_rfl) (by kernel_rfl) (by kernel_rfl) (fun _ _ _ h => h) (Or.inl ⟨by kernel_rfl, ?_⟩) (by assumption) ?_
        · intro w hSw
          (try dsimp only at hSw)
          have hck_ := Hck.out
          go_simp
          first | done | with_reducible rfl
        simp only [List.getElem_toArray, List.getElem_cons_zero, List.getElem_cons_succ, Act.put, List.setIfInBounds_toArray, List.set_cons_zero, List.set_cons_succ]
        refine wpAnyH_take (i := 6) (v := ?_) rfl (by kernel_rfl) (by kernel_rfl) (by kernel_rfl) (fun _ _ _ h => h) (Or.inl ⟨by kernel_rfl, ?_⟩) (by assumption) ?_
        rotate_left
        · intro w hSw
          (try dsimp only at hSw)
          go_simp
          first | done | with_reducible rfl
        simp only [List.getElem_toArray, List.getElem_cons_zero, List.getElem_cons_succ, Act.put, List.setIfInBounds_toArray, List.set_cons_zero, List.set_cons_succ]
        refine wpAnyH_take (i := 7) (v := ?_) rfl (by kernel_rfl) (by kernel_rfl) (by kernel_rfl) (fun _ _ _ h => h) (Or.inl ⟨by kernel_rfl, ?_⟩) (by assumption) ?_
        rotate_left
        · intro w hSw
          (try dsimp only at hSw)
          go_simp
          first | done | with_reducible rfl
        simp only [List.getElem_toArray, List.getElem_cons_zero, List.getElem_cons_succ, Act.put, List.setIfInBounds_toArray, List.set_cons_zero, List.set_cons_succ]
        refine wpAnyH_take (i := 8) (v := .slice (some ⟨bb, off, none⟩) k c4) rfl (by kernel_rfl) (by kernel_rfl) (by kernel_rfl) (fun _ _ _ h => h) (Or.inl ⟨by kernel_rfl, ?_⟩) (by assumption) ?_
        · intro w hSw
          (try dsimp only at hSw)
          go_simp
          first | done | with_reducible rfl
        simp only [List.getElem_toArray, List.getElem_cons_zero, List.getElem_cons_succ, Act.put, List.setIfInBounds_toArray, List.set_cons_zero, List.set_cons_succ]
        refine wpAnyH_ready (rs := [1]) (by kernel_rfl) (by simp) ?_
        refine AllReadyH.cons rfl (fun K hK => ?_) ?_
        · simp only [List.getElem_toArray, List.getElem_cons_zero, List.getElem_cons_succ]
          go_simp
          obtain ⟨w_0, hw_0⟩ : ∃ x, x = (w8.alloc (.cells mkE16 34)).drew := ⟨_, rfl⟩
          rw [← hw_0]
          have own_0 : w_0.ownsRow w8.heap.size 34 8 (.slice (some ⟨w8.heap.size, 0, none⟩) 0 16) 0 [] := by rw [hw_0]; exact hn_mk w8 mkE16 16 34 8 rfl (by decide) _ (Nat.le_refl _)
          have bel_0 : Below w8.heap.size w8 w_0 := by rw [hw_0]; exact (bal (Below.refl w8.heap.size w8) _).drew
          clear hw_0
          refine hK.out _ _ trivial (fun hHeld => ?_)
          clear hK K
          try simp only [List.getElem_toArray, List.getElem_cons_zero, List.getElem_cons_succ, Act.put, List.setIfInBounds_toArray, List.set_cons_zero, List.set_cons_succ]
          refine wpAnyH_ready (rs := [5]) (by kernel_rfl) (by simp) ?_
          refine AllReadyH.cons rfl (fun K hK => ?_) ?_
          · refine step_src (w0 := w8) (by rfl) _ _ 43 (by rfl) 34 i0 _ 8 112 Tryd.underlying43 hi0 hi1 hi2 hi3 (by rfl) (by decide) (.slice (some ⟨w8.heap.size, 0, none⟩) 0 16) (0) ([]) (by rfl) own_0 bel_0 (.slice (some ⟨bb, off, none⟩) (m - k) 0) (m - k) ((es.drop k).flatMap elV) (by rfl) (by rw [Hz0.out, Hdr0.out]; exact src_zero9 _ _ _ _) (els_one _) (by unfold maxLen; omega) (by omega) ?_
            intro v5_ w5_ own5_ bel5_ kept5_
            refine hK.out _ _ trivial (fun hHeld => ?_)
            clear hK K
            try simp only [List.getElem_toArray, List.getElem_cons_zero, List.getElem_cons_succ, Act.put, List.setIfInBounds_toArray, List.set_cons_zero, List.set_cons_succ]
            refine wpAnyH_ready (rs := [9]) (by kernel_rfl) (by simp) ?_
            refine AllReadyH.cons rfl (fun K hK => ?_) ?_
            · refine step_src (w0 := w8) (by rfl) _ _ 43 (by rfl) 34 i0 _ 8 112 Tryd.underlying43 hi0 hi1 hi2 hi3 (by rfl) (by decide) (v5_) (0 + (m - k)) ([] ++ ((es.drop k).flatMap elV)) (by rfl) own5_ bel5_ (.slice (some ⟨bb, off, none⟩) k c4) (k) ((es.take k).flatMap elV) (by rfl) (by rw [← hn_takeK elV 8 (fun _ => rfl)]; exact hn_src ((HSS.out.go bel5_).take k hkm)) (els_one _) (by unfold maxLen; omega) (by omega) ?_
              intro v6_ w6_ own6_ bel6_ kept6_
              have own7_ : w6_.ownsRow w8.heap.size 34 8 v6_ m ((es.drop k ++ es.take k).flatMap elV) := by (have h := own6_; rw [List.flatMap_append]; rw [List.nil_append, show 0 + (m - k) + k = m by omega] at h; exact h)
              obtain ⟨A7_, c7_, hv7_, sl7_, cp7_1, cp7_2⟩ := own_slice2 own7_
              subst hv7_
              refine hK.out _ _ trivial (fun hHeld => ?_)
              clear hK K
              try simp only [List.getElem_toArray, List.getElem_cons_zero, List.getElem_cons_succ, Act.put, List.setIfInBounds_toArray, List.set_cons_zero, List.set_cons_succ]
              refine wpAnyH_ready (rs := [10]) (by kernel_rfl) (by simp) ?_
              refine AllReadyH.cons rfl (fun K hK => ?_) ?_
              · simp only [List.getElem_toArray, List.getElem_cons_zero, List.getElem_cons_succ]
                go_simp
                have hel : ∀ z ∈ es.drop k ++ es.take k, ElOk w6_ rt 3 (fun _ => true) z := by rw [← Hrt.out]; exact (H8.out.2.2.2.1.go bel6_).okr k
                (with_reducible refine (accept_any rt 3 A7_ c7_ m (es.drop k ++ es.take k) Hrl.out (fun _ => true) 0 (T8.drop k ++ T8.take k) Hacc w6_ (HT.out.go (bgo H8.out.1 bel6_)).ct (HT.out.go (bgo H8.out.1 bel6_)).ot sl7_ hel ⟨cp7_1, cp7_2⟩ (by omega)).mono ?_)
                rintro e w8_ ⟨v8_, rfl, own8_, hB8_⟩
                dsimp only
                refine hK.out _ _ trivial (fun hHeld => ?_)
                clear hK K
                try simp only [List.getElem_toArray, List.getElem_cons_zero, List.getElem_cons_succ, Act.put, List.setIfInBounds_toArray, List.set_cons_zero, List.set_cons_succ]
                refine wpAnyH_take (i := 11) (v := ?_) rfl (by kernel_rfl) (by kernel_rfl) (by kernel_rfl) (fun _ _ _ h => h) (Or.inl ⟨by kernel_rfl, ?_⟩) (by assumption) ?_
                rotate_left
                · intro w hSw
                  (try dsimp only at hSw)
                  go_simp
                  first | done | with_reducible rfl
                simp only [List.getElem_toArray, List.getElem_cons_zero, List.getElem_cons_succ, Act.put, List.setIfInBounds_toArray, List.set_cons_zero, List.set_cons_succ]
                refine wpAnyH_take (i := 12) (v := ?_) rfl (by kernel_rfl) (by kernel_rfl) (by kernel_rfl) (fun _ _ _ h => h) (Or.inl ⟨by kernel_rfl, ?_⟩) (by assumption) ?_
                rotate_left
                · intro w hSw
                  (try dsimp only at hSw)
                  go_simp
                  first | done | with_reducible rfl
                simp only [List.getElem_toArray, List.getElem_cons_zero, List.getElem_cons_succ, Act.put, List.setIfInBounds_toArray, List.set_cons_zero, List.set_cons_succ]
                refine wpAnyH_take (i := 13) (v := ?_) rfl (by kernel_rfl) (by kernel_rfl) (by kernel_rfl) (fun _ _ _ h => h) (Or.inl ⟨by kernel_rfl, ?_⟩) (by assumption) ?_
                rotate_left
                · intro w hSw
                  (try dsimp only at hSw)
                  go_simp
                  first | done | with_reducible rfl
                simp only [List.getElem_toArray, List.getElem_cons_zero, List.getElem_cons_succ, Act.put, List.setIfInBounds_toArray, List.set_cons_zero, List.set_cons_succ]
                refine wpAnyH_take (i := 14) (v := ?_) rfl (by kernel_rfl) (by kernel_rfl) (by kernel_rfl) (fun _ _ _ h => h) (Or.inl ⟨by kernel_rfl, ?_⟩) (by assumption) ?_
                rotate_left
                · intro w hSw
                  (try dsimp only at hSw)
                  go_simp
                  first | done | with_reducible rfl
                simp only [List.getElem_toArray, List.getElem_cons_zero, List.getElem_cons_succ, Act.put, List.setIfInBounds_toArray, List.set_cons_zero, List.set_cons_succ]
                refine wpAnyH_take (i := 15) (v := ?_) rfl (by kernel_rfl) (by kernel_rfl) (by kernel_rfl) (fun _ _ _ h => h) (Or.inl ⟨by kernel_rfl, ?_⟩) (by assumption) ?_
                rotate_left
                · intro w hSw
                  (try dsimp only at hSw)
                  go_simp
                  first | done | with_reducible rfl
                simp only [List.getElem_toArray, List.getElem_cons_zero, List.getElem_cons_succ, Act.put, List.setIfInBounds_toArray, List.set_cons_zero, List.set_cons_succ]
                refine wpAnyH_done (by kernel_rfl) ?_ _
                dsimp only [NoPanic]
                clear hHeld
                rw [Hrtl.out] at own8_
                obtain ⟨A9_, c9_, hv9_, sl9_, _, _⟩ := own_slice2 own8_
                subst hv9_
                go_wp2_with fail
                go_meet
                exact ⟨⟨_, _, rfl, sl9_⟩, rfl, bgo bel6_ hB8_⟩
              exact AllReadyH.nil
            exact AllReadyH.nil
          exact AllReadyH.nil
        exact AllReadyH.nil
      · have hck2 : k < c4 := by omega
        refine wp_region_noPanic ?_
        refine wp_region_held_drew (S := fun _ => True) (by kernel_rfl) trivial (fun hHeld => ?_)
        refine wpAnyH_take (i := 0) (v := ?_) rfl (by kernel_rfl) (by kernel_rfl) (by kernel_rfl) (fun _ _ _ h => h) (Or.inl ⟨by kernel_rfl, ?_⟩) (by assumption) ?_
        rotate_left
        · intro w hSw
          (try dsimp only at hSw)
          go_simp
          first | done | with_reducible rfl
        simp only [List.getElem_toArray, List.getElem_cons_zero, List.getElem_cons_succ, Act.put, List.setIfInBounds_toArray, List.set_cons_zero, List.set_cons_succ]
        refine wpAnyH_take (i := 2) (v := ?_) rfl (by kernel_rfl) (by kernel_rfl) (by kernel_rfl) (fun _ _ _ h => h) (Or.inl ⟨by kernel_rfl, ?_⟩) (by assumption) ?_
        rotate_left
        · intro w hSw
          (try dsimp only at hSw)
          go_simp
          first | done | with_reducible rfl
        simp only [List.getElem_toArray, List.getElem_cons_zero, List.getElem_cons_succ, Act.put, List.setIfInBounds_toArray, List.set_cons_zero, List.set_cons_succ]
        refine wpAnyH_take (i := 3) (v := ?_) rfl (by kernel_rfl) (by kernel_rfl) (by kernel_rfl) (fun _ _ _ h => h) (Or.inl ⟨by kernel_rfl, ?_⟩) (by assumption) ?_
        rotate_left
        · intro w hSw
          (try dsimp only at hSw)
          go_simp
          first | done | with_reducible rfl
        simp only [List.getElem_toArray, List.getElem_cons_zero, List.getElem_cons_succ, Act.put, List.setIfInBounds_toArray, List.set_cons_zero, List.set_cons_succ]
        refine wpAnyH_take (i := 4) (v := .slice (some ⟨bb, off + k * 8, none⟩) (m - k) (c4 - k)) rfl (by kernel_rfl) (by kernel_rfl) (by kernel_rfl) (fun _ _ _ h => h) (Or.inl ⟨by kernel_rfl, ?_⟩) (by assumption) ?_
        · intro w hSw
          (try dsimp only at hSw)
          go_simp
          first | done | with_reducible rfl
        simp only [List.getElem_toArray, List.getElem_cons_zero, List.getElem_cons_succ, Act.put, List.setIfInBounds_toArray, List.set_cons_zero, List.set_cons_succ]
        refine wpAnyH_take (i := 6) (v := ?_) rfl (by kernel_rfl) (by kernel_rfl) (by kernel_rfl) (fun _ _ _ h => h) (Or.inl ⟨by kernel_rfl, ?_⟩) (by assumption) ?_
        rotate_left
        · intro w hSw
          (try dsimp only at hSw)
          go_simp
          first | done | with_reducible rfl
        simp only [List.getElem_toArray, List.getElem_cons_zero, List.getElem_cons_succ, Act.put, List.setIfInBounds_toArray, List.set_cons_zero, List.set_cons_succ]
        refine wpAnyH_take (i := 7) (v := ?_) rfl (by kernel_rfl) (by kernel_rfl) (by kernel_rfl) (fun _ _ _ h => h) (Or.inl ⟨by kernel_rfl, ?_⟩) (by assumption) ?_
        rotate_left
        · intro w hSw
          (try dsimp only at hSw)
          go_simp
          first | done | with_reducible rfl
        simp only [List.getElem_toArray, List.getElem_cons_zero, List.getElem_cons_succ, Act.put, List.setIfInBounds_toArray, List.set_cons_zero, List.set_cons_succ]
        refine wpAnyH_take (i := 8) (v := .slice (some ⟨bb, off, none⟩) k c4) rfl (by kernel_rfl) (by kernel_rfl) (by kernel_rfl) (fun _ _ _ h => h) (Or.inl ⟨by kernel_rfl, ?_⟩) (by assumption) ?_
        · intro w hSw
          (try dsimp only at hSw)
          go_simp
          first | done | with_reducible rfl
        simp only [List.getElem_toArray, List.getElem_cons_zero, List.getElem_cons_succ, Act.put, List.setIfInBounds_toArray, List.set_cons_zero, List.set_cons_succ]
        refine wpAnyH_ready (rs := [1]) (by kernel_rfl) (by simp) ?_
        refine AllReadyH.cons rfl (fun K hK => ?_) ?_
        · simp only [List.getElem_toArray, List.getElem_cons_zero, List.getElem_cons_succ]
          go_simp
          obtain ⟨w_0, hw_0⟩ : ∃ x, x = (w8.alloc (.cells mkE16 34)).drew := ⟨_, rfl⟩
          rw [← hw_0]
          have own_0 : w_0.ownsRow w8.heap.size 34 8 (.slice (some ⟨w8.heap.size, 0, none⟩) 0 16) 0 [] := by rw [hw_0]; exact hn_mk w8 mkE16 16 34 8 rfl (by decide) _ (Nat.le_refl _)
          have bel_0 : Below w8.heap.size w8 w_0 := by rw [hw_0]; exact (bal (Below.refl w8.heap.size w8) _).drew
          clear hw_0
          refine hK.out _ _ trivial (fun hHeld => ?_)
          clear hK K
          try simp only [List.getElem_toArray, List.getElem_cons_zero, List.getElem_cons_succ, Act.put, List.setIfInBounds_toArray, List.set_cons_zero, List.set_cons_succ]
          refine wpAnyH_ready (rs := [5]) (by kernel_rfl) (by simp) ?_
          refine AllReadyH.cons rfl (fun K hK => ?_) ?_
          · refine step_src (w0 := w8) (by rfl) _ _ 43 (by rfl) 34 i0 _ 8 112 Tryd.underlying43 hi0 hi1 hi2 hi3 (by rfl) (by decide) (.slice (some ⟨w8.heap.size, 0, none⟩) 0 16) (0) ([]) (by rfl) own_0 bel_0 (.slice (some ⟨bb, off + k * 8, none⟩) (m - k) (c4 - k)) (m - k) ((es.drop k).flatMap elV) (by rfl) (by rw [← hn_dropK elV 8 (fun _ => rfl)]; exact hn_src ((HSS.out.go bel_0).hndrop k hkm)) (els_one _) (by unfold maxLen; omega) (by omega) ?_
            intro v5_ w5_ own5_ bel5_ kept5_
            refine hK.out _ _ trivial (fun hHeld => ?_)
            clear hK K
            try simp only [List.getElem_toArray, List.getElem_cons_zero, List.getElem_cons_succ, Act.put, List.setIfInBounds_toArray, List.set_cons_zero, List.set_cons_succ]
            refine wpAnyH_ready (rs := [9]) (by kernel_rfl) (by simp) ?_
            refine AllReadyH.cons rfl (fun K hK => ?_) ?_
            · refine step_src (w0 := w8) (by rfl) _ _ 43 (by rfl) 34 i0 _ 8 112 Tryd.underlying43 hi0 hi1 hi2 hi3 (by rfl) (by decide) (v5_) (0 + (m - k)) ([] ++ ((es.drop k).flatMap elV)) (by rfl) own5_ bel5_ (.slice (some ⟨bb, off, none⟩) k c4) (k) ((es.take k).flatMap elV) (by rfl) (by rw [← hn_takeK elV 8 (fun _ => rfl)]; exact hn_src ((HSS.out.go bel5_).take k hkm)) (els_one _) (by unfold maxLen; omega) (by omega) ?_
              intro v6_ w6_ own6_ bel6_ kept6_
              have own7_ : w6_.ownsRow w8.heap.size 34 8 v6_ m ((es.drop k ++ es.take k).flatMap elV) := by (have h := own6_; rw [List.flatMap_append]; rw [List.nil_append, show 0 + (m - k) + k = m by omega] at h; exact h)
              obtain ⟨A7_, c7_, hv7_, sl7_, cp7_1, cp7_2⟩ := own_slice2 own7_
              subst hv7_
              refine hK.out _ _ trivial (fun hHeld => ?_)
              clear hK K
              try simp only [List.getElem_toArray, List.getElem_cons_zero, List.getElem_cons_succ, Act.put, List.setIfInBounds_toArray, List.set_cons_zero, List.set_cons_succ]
              refine wpAnyH_ready (rs := [10]) (by kernel_rfl) (by simp) ?_
              refine AllReadyH.cons rfl (fun K hK => ?_) ?_
              · simp only [List.getElem_toArray, List.getElem_cons_zero, List.getElem_cons_succ]
                go_simp
                have hel : ∀ z ∈ es.drop k ++ es.take k, ElOk w6_ rt 3 (fun _ => true) z := by rw [← Hrt.out]; exact (H8.out.2.2.2.1.go bel6_).okr k
                (with_reducible refine (accept_any rt 3 A7_ c7_ m (es.drop k ++ es.take k) Hrl.out (fun _ => true) 0 (T8.drop k ++ T8.take k) Hacc w6_ (HT.out.go (bgo H8.out.1 bel6_)).ct (HT.out.go (bgo H8.out.1 bel6_)).ot sl7_ hel ⟨cp7_1, cp7_2⟩ (by omega)).mono ?_)
                rintro e w8_ ⟨v8_, rfl, own8_, hB8_⟩
                dsimp only
                refine hK.out _ _ trivial (fun hHeld => ?_)
                clear hK K
                try simp only [List.getElem_toArray, List.getElem_cons_zero, List.getElem_cons_succ, Act.put, List.setIfInBounds_toArray, List.set_cons_zero, List.set_cons_succ]
                refine wpAnyH_take (i := 11) (v := ?_) rfl (by kernel_rfl) (by kernel_rfl) (by kernel_rfl) (fun _ _ _ h => h) (Or.inl ⟨by kernel_rfl, ?_⟩) (by assumption) ?_
                rotate_left
                · intro w hSw
                  (try dsimp only at hSw)
                  go_simp
                  first | done | with_reducible rfl
                simp only [List.getElem_toArray, List.getElem_cons_zero, List.getElem_cons_succ, Act.put, List.setIfInBounds_toArray, List.set_cons_zero, List.set_cons_succ]
                refine wpAnyH_take (i := 12) (v := ?_) rfl (by kernel_rfl) (by kernel_rfl) (by kernel_rfl) (fun _ _ _ h => h) (Or.inl ⟨by kernel_rfl, ?_⟩) (by assumption) ?_
                rotate_left
                · intro w hSw
                  (try dsimp only at hSw)
                  go_simp
                  first | done | with_reducible rfl
                simp only [List.getElem_toArray, List.getElem_cons_zero, List.getElem_cons_succ, Act.put, List.setIfInBounds_toArray, List.set_cons_zero, List.set_cons_succ]
                refine wpAnyH_take (i := 13) (v := ?_) rfl (by kernel_rfl) (by kernel_rfl) (by kernel_rfl) (fun _ _ _ h => h) (Or.inl ⟨by kernel_rfl, ?_⟩) (by assumption) ?_
                rotate_left
                · intro w hSw
                  (try dsimp only at hSw)
                  go_simp
                  first | done | with_reducible rfl
                simp only [List.getElem_toArray, List.getElem_cons_zero, List.getElem_cons_succ, Act.put, List.setIfInBounds_toArray, List.set_cons_zero, List.set_cons_succ]
                refine wpAnyH_take (i := 14) (v := ?_) rfl (by kernel_rfl) (by kernel_rfl) (by kernel_rfl) (fun _ _ _ h => h) (Or.inl ⟨by kernel_rfl, ?_⟩) (by assumption) ?_
                rotate_left
                · intro w hSw
                  (try dsimp only at hSw)
                  go_simp
                  first | done | with_reducible rfl
                simp only [List.getElem_toArray, List.getElem_cons_zero, List.getElem_cons_succ, Act.put, List.setIfInBounds_toArray, List.set_cons_zero, List.set_cons_succ]
                refine wpAnyH_take (i := 15) (v := ?_) rfl (by kernel_rfl) (by kernel_rfl) (by kernel_rfl) (fun _ _ _ h => h) (Or.inl ⟨by kernel_rfl, ?_⟩) (by assumption) ?_
                rotate_left
                · intro w hSw
                  (try dsimp only at hSw)
                  go_simp
                  first | done | with_reducible rfl
                simp only [List.getElem_toArray, List.getElem_cons_zero, List.getElem_cons_succ, Act.put, List.setIfInBounds_toArray, List.set_cons_zero, List.set_cons_succ]
                refine wpAnyH_done (by kernel_rfl) ?_ _
                dsimp only [NoPanic]
                clear hHeld
                rw [Hrtl.out] at own8_
                obtain ⟨A9_, c9_, hv9_, sl9_, _, _⟩ := own_slice2 own8_
                subst hv9_
                go_wp2_with fail
                go_meet
                exact ⟨⟨_, _, rfl, sl9_⟩, rfl, bgo bel6_ hB8_⟩
              exact AllReadyH.nil
            exact AllReadyH.nil
          exact AllReadyH.nil
        exact AllReadyH.nil
  case rest =>
  obtain ⟨⟨A9, c9, rfl, sl9⟩, rfl, hB9⟩ := hcut
  obtain ⟨w9, hw9⟩ : ∃ z, z = wc := ⟨_, rfl⟩
  subst hw9
  have H9 := Lib.hid (And.intro (bgo H8.out.1 hB9) (And.intro (H8.out.2.1.go hB9) (And.intro (H8.out.2.2.2.2.1.go hB9) (And.intro (H8.out.2.2.2.2.2.go hB9) sl9))))
  clear hB9 sl9 hmkE Hsrc4 H57 H58
  have hmkT : ∀ w, (Instr.makeSlice 40 (.int .i64 0) (.int .i64 16)).run Tryd.prog w = .ok (.slice (some ⟨w.heap.size, 0, none⟩) 0 16) (w.alloc (.cells mkT16 25)) := fun _ => by kernel_rfl
  go_upto_region 11 with fail
  go_cut [4] (fun p wc => p = .bool true ∧ Below w9.heap.size w9 wc)
  case first =>
    have hrtl : (T8.drop k ++ T8.take k).length = m := by rw [List.length_append, List.length_drop, List.length_take, HL.out.len]; omega
    have Hrtl := Lib.hid hrtl
    clear hrtl
    rcases Hsh3.out with ⟨hnil, hN0⟩ | ⟨bb, off, hA3⟩
    · injection hnil with e1 e2 e3
      subst e1 e3 hN0
      have hk0 : k = 0 := by omega
      subst hk0
      have Hnil : Hid (T8 = []) := Lib.hid (List.eq_nil_of_length_eq_zero HL.out.len)
      refine wp_region_noPanic ?_
      refine wp_region_held_drew (S := fun _ => True) (by kernel_rfl) trivial (fun hHeld => ?_)
      try simp only [List.append_eq, List.cons_append, List.nil_append]
      refine wpAnyH_take (i := 0) (v := ?_) rfl (by kernel_rfl) (by kernel_rfl) (by kernel_rfl) (fun _ _ _ h => h) (Or.inl ⟨by kernel_rfl, ?_⟩) (by assumption) ?_
      rotate_left
      · intro w hSw
        (try dsimp only at hSw)
        go_simp
        first | done | with_reducible rfl
      simp only [List.getElem_toArray, List.getElem_cons_zero, List.getElem_cons_succ, Act.put, List.setIfInBounds_toArray, List.set_cons_zero, List.set_cons_succ]
      refine wpAnyH_take (i := 1) (v := ?_) rfl (by kernel_rfl) (by kernel_rfl) (by kernel_rfl) (fun _ _ _ h => h) (Or.inl ⟨by kernel_rfl, ?_⟩) (by assumption) ?_
      rotate_left
      · intro w hSw
        (try dsimp only at hSw)
        go_simp
        first | done | with_reducible rfl
      simp only [List.getElem_toArray, List.getElem_cons_zero, List.getElem_cons_succ, Act.put, List.setIfInBounds_toArray, List.set_cons_zero, List.set_cons_succ]
      refine wpAnyH_take (i := 2) (v := ?_) rfl (by kernel_rfl) (by kernel_rfl) (by kernel_rfl) (fun _ _ _ h => h) (Or.inl ⟨by kernel_rfl, ?_⟩) (by assumption) ?_
      rotate_left
      · intro w hSw
        (try dsimp only at hSw)
        go_simp
        first | done | with_reducible rfl
      simp only [List.getElem_toArray, List.getElem_cons_zero, List.getElem_cons_succ, Act.put, List.setIfInBounds_toArray, List.set_cons_zero, List.set_cons_succ]
      refine wpAnyH_take (i := 3) (v := ?_) rfl (by kernel_rfl) (by kernel_rfl) (by kernel_rfl) (fun _ _ _ h => h) (Or.inl ⟨by kernel_rfl, ?_⟩) (by assumption) ?_
      rotate_left
      · intro w hSw
        (try dsimp only at hSw)
        go_simp
        first | done | with_reducible rfl
      simp only [List.getElem_toArray, List.getElem_cons_zero, List.getElem_cons_succ, Act.put, List.setIfInBounds_toArray, List.set_cons_zero, List.set_cons_succ]
      refine wpAnyH_take (i := 4) (v := ?_) rfl (by kernel_rfl) (by kernel_rfl) (by kernel_rfl) (fun _ _ _ h => h) (Or.inl ⟨by kernel_rfl, ?_⟩) (by assumption) ?_
      rotate_left
      · intro w hSw
        (try dsimp only at hSw)
        go_simp
        first | done | with_reducible rfl
      simp only [List.getElem_toArray, List.getElem_cons_zero, List.getElem_cons_succ, Act.put, List.setIfInBounds_toArray, List.set_cons_zero, List.set_cons_succ]
      refine wpAnyH_take (i := 5) (v := ?_) rfl (by kernel_rfl) (by kernel_rfl) (by kernel_rfl) (fun _ _ _ h => h) (Or.inl ⟨by kernel_rfl, ?_⟩) (by assumption) ?_
      rotate_left
      · intro w hSw
        (try dsimp only at hSw)
        go_simp
        first | done | with_reducible rfl
      simp only [List.getElem_toArray, List.getElem_cons_zero, List.getElem_cons_succ, Act.put, List.setIfInBounds_toArray, List.set_cons_zero, List.set_cons_succ]
      refine wpAnyH_take (i := 6) (v := ?_) rfl (by kernel_rfl) (by kernel_rfl) (by kernel_rfl) (fun _ _ _ h => h) (Or.inl ⟨by kernel_rfl, ?_⟩) (by assumption) ?_
      rotate_left
      · intro w hSw
        (try dsimp only at hSw)
        go_simp
        first | done | with_reducible rfl
      simp only [List.getElem_toArray, List.getElem_cons_zero, List.getElem_cons_succ, Act.put, List.setIfInBounds_toArray, List.set_cons_zero, List.set_cons_succ]
      refine wpAnyH_take (i := 7) (v := ?_) rfl (by kernel_rfl) (by kernel_rfl) (by kernel_rfl) (fun _ _ _ h => h) (Or.inl ⟨by kernel_rfl, ?_⟩) (by assumption) ?_
      rotate_left
      · intro w hSw
        (try dsimp only at hSw)
        go_simp
        first | done | with_reducible rfl
      simp only [List.getElem_toArray, List.getElem_cons_zero, List.getElem_cons_succ, Act.put, List.setIfInBounds_toArray, List.set_cons_zero, List.set_cons_succ]
      refine wpAnyH_take (i := 8) (v := ?_) rfl (by kernel_rfl) (by kernel_rfl) (by kernel_rfl) (fun _ _ _ h => h) (Or.inl ⟨by kernel_rfl, ?_⟩) (by assumption) ?_
      rotate_left
      · intro w hSw
        (try dsimp only at hSw)
        go_simp
        first | done | with_reducible rfl
      simp only [List.getElem_toArray, List.getElem_cons_zero, List.getElem_cons_succ, Act.put, List.setIfInBounds_toArray, List.set_cons_zero, List.set_cons_succ]
      refine wpAnyH_take (i := 9) (v := ?_) rfl (by kernel_rfl) (by kernel_rfl) (by kernel_rfl) (fun _ _ _ h => h) (Or.inl ⟨by kernel_rfl, ?_⟩) (by assumption) ?_
      rotate_left
      · intro w hSw
        (try dsimp only at hSw)
        go_simp
        first | done | with_reducible rfl
      simp only [List.getElem_toArray, List.getElem_cons_zero, List.getElem_cons_succ, Act.put, List.setIfInBounds_toArray, List.set_cons_zero, List.set_cons_succ]
      refine wpAnyH_take (i := 10) (v := ?_) rfl (by kernel_rfl) (by kernel_rfl) (by kernel_rfl) (fun _ _ _ h => h) (Or.inl ⟨by kernel_rfl, ?_⟩) (by assumption) ?_
      rotate_left
      · intro w hSw
        (try dsimp only at hSw)
        go_simp
        first | done | with_reducible rfl
      simp only [List.getElem_toArray, List.getElem_cons_zero, List.getElem_cons_succ, Act.put, List.setIfInBounds_toArray, List.set_cons_zero, List.set_cons_succ]
      refine wpAnyH_take (i := 11) (v := ?_) rfl (by kernel_rfl) (by kernel_rfl) (by kernel_rfl) (fun _ _ _ h => h) (Or.inl ⟨by kernel_rfl, ?_⟩) (by assumption) ?_
      rotate_left
      · intro w hSw
        (try dsimp only at hSw)
        go_simp
        first | done | with_reducible rfl
      simp only [List.getElem_toArray, List.getElem_cons_zero, List.getElem_cons_succ, Act.put, List.setIfInBounds_toArray, List.set_cons_zero, List.set_cons_succ]
      refine wpAnyH_take (i := 12) (v := ?_) rfl (by kernel_rfl) (by kernel_rfl) (by kernel_rfl) (fun _ _ _ h => h) (Or.inl ⟨by kernel_rfl, ?_⟩) (by assumption) ?_
      rotate_left
      · intro w hSw
        (try dsimp only at hSw)
        go_simp
        first | done | with_reducible rfl
      simp only [List.getElem_toArray, List.getElem_cons_zero, List.getElem_cons_succ, Act.put, List.setIfInBounds_toArray, List.set_cons_zero, List.set_cons_succ]
      refine wpAnyH_take (i := 13) (v := ?_) rfl (by kernel_rfl) (by kernel_rfl) (by kernel_rfl) (fun _ _ _ h => h) (Or.inl ⟨by kernel_rfl, ?_⟩) (by assumption) ?_
      rotate_left
      · intro w hSw
        (try dsimp only at hSw)
        go_simp
        first | done | with_reducible rfl
      simp only [List.getElem_toArray, List.getElem_cons_zero, List.getElem_cons_succ, Act.put, List.setIfInBounds_toArray, List.set_cons_zero, List.set_cons_succ]
      refine wpAnyH_take (i := 14) (v := ?_) rfl (by kernel_rfl) (by kernel_rfl) (by kernel_rfl) (fun _ _ _ h => h) (Or.inl ⟨by kernel_rfl, ?_⟩) (by assumption) ?_
      rotate_left
      · intro w hSw
        (try dsimp only at hSw)
        go_simp
        first | done | with_reducible rfl
      simp only [List.getElem_toArray, List.getElem_cons_zero, List.getElem_cons_succ, Act.put, List.setIfInBounds_toArray, List.set_cons_zero, List.set_cons_succ]
      refine wpAnyH_take (i := 15) (v := ?_) rfl (by kernel_rfl) (by kernel_rfl) (by kernel_rfl) (fun _ _ _ h => h) (Or.inl ⟨by kernel_rfl, ?_⟩) (by assumption) ?_
      rotate_left
      · intro w hSw
        (try dsimp only at hSw)
        go_simp
        first | done | with_reducible rfl
      simp only [List.getElem_toArray, List.getElem_cons_zero, List.getElem_cons_succ, Act.put, List.setIfInBounds_toArray, List.set_cons_zero, List.set_cons_succ]
      refine wpAnyH_ready (rs := [16]) (by kernel_rfl) (by simp) ?_
      refine AllReadyH.cons rfl (fun K hK => ?_) ?_
      · simp only [List.getElem_toArray, List.getElem_cons_zero, List.getElem_cons_succ]
        go_simp
        (with_reducible refine (same29_any Aa none ca 0 0 0 T8 T8 HL.out.len HL.out.len (by omega) true (Lib.hid (decide_eq_true rfl)) w9.drew ((H9.out.2.2.1).go ((Below.refl w9.heap.size w9).drew)) ((H9.out.2.1).go ((Below.refl w9.heap.size w9).drew))).mono ?_)
        rintro e wc0_ ⟨rfl, hBc0⟩
        dsimp only
        have belc0 : Below w9.heap.size w9 wc0_ := bgo ((Below.refl w9.heap.size w9).drew) hBc0
        refine hK.out _ _ trivial (fun hHeld => ?_)
        clear hK K
        try simp only [List.getElem_toArray, List.getElem_cons_zero, List.getElem_cons_succ, Act.put, List.setIfInBounds_toArray, List.set_cons_zero, List.set_cons_succ]
        refine wpAnyH_take (i := 17) (v := ?_) rfl (by kernel_rfl) (by kernel_rfl) (by kernel_rfl) (fun _ _ _ h => h) (Or.inl ⟨by kernel_rfl, ?_⟩) (by assumption) ?_
        rotate_left
        · intro w hSw
          (try dsimp only at hSw)
          go_simp
          first | done | with_reducible rfl
        simp only [List.getElem_toArray, List.getElem_cons_zero, List.getElem_cons_succ, Act.put, List.setIfInBounds_toArray, List.set_cons_zero, List.set_cons_succ]
        refine wpAnyH_take (i := 18) (v := ?_) rfl (by kernel_rfl) (by kernel_rfl) (by kernel_rfl) (fun _ _ _ h => h) (Or.inl ⟨by kernel_rfl, ?_⟩) (by assumption) ?_
        rotate_left
        · intro w hSw
          (try dsimp only at hSw)
          go_simp
          first | done | with_reducible rfl
        simp only [List.getElem_toArray, List.getElem_cons_zero, List.getElem_cons_succ, Act.put, List.setIfInBounds_toArray, List.set_cons_zero, List.set_cons_succ]
        refine wpAnyH_take (i := 19) (v := ?_) rfl (by kernel_rfl) (by kernel_rfl) (by kernel_rfl) (fun _ _ _ h => h) (Or.inl ⟨by kernel_rfl, ?_⟩) (by assumption) ?_
        rotate_left
        · intro w hSw
          (try dsimp only at hSw)
          go_simp
          first | done | with_reducible rfl
        simp only [List.getElem_toArray, List.getElem_cons_zero, List.getElem_cons_succ, Act.put, List.setIfInBounds_toArray, List.set_cons_zero, List.set_cons_succ]
        refine wpAnyH_take (i := 20) (v := ?_) rfl (by kernel_rfl) (by kernel_rfl) (by kernel_rfl) (fun _ _ _ h => h) (Or.inl ⟨by kernel_rfl, ?_⟩) (by assumption) ?_
        rotate_left
        · intro w hSw
          (try dsimp only at hSw)
          go_simp
          first | done | with_reducible rfl
        simp only [List.getElem_toArray, List.getElem_cons_zero, List.getElem_cons_succ, Act.put, List.setIfInBounds_toArray, List.set_cons_zero, List.set_cons_succ]
        refine wpAnyH_ready (rs := [21]) (by kernel_rfl) (by simp) ?_
        refine AllReadyH.cons rfl (fun K hK => ?_) ?_
        · simp only [List.getElem_toArray, List.getElem_cons_zero, List.getElem_cons_succ]
          go_simp
          (with_reducible refine (same29_any Ab none cb 0 0 0 T8 T8 HL.out.len HL.out.len (by omega) true (Lib.hid (decide_eq_true rfl)) wc0_ ((H9.out.2.2.2.1).go (belc0)) ((H9.out.2.1).go (belc0))).mono ?_)
          rintro e wc1_ ⟨rfl, hBc1⟩
          dsimp only
          have belc1 : Below w9.heap.size w9 wc1_ := bgo (belc0) hBc1
          refine hK.out _ _ trivial (fun hHeld => ?_)
          clear hK K
          try simp only [List.getElem_toArray, List.getElem_cons_zero, List.getElem_cons_succ, Act.put, List.setIfInBounds_toArray, List.set_cons_zero, List.set_cons_succ]
          refine wpAnyH_take (i := 22) (v := ?_) rfl (by kernel_rfl) (by kernel_rfl) (by kernel_rfl) (fun _ _ _ h => h) (Or.inl ⟨by kernel_rfl, ?_⟩) (by assumption) ?_
          rotate_left
          · intro w hSw
            (try dsimp only at hSw)
            go_simp
            first | done | with_reducible rfl
          simp only [List.getElem_toArray, List.getElem_cons_zero, List.getElem_cons_succ, Act.put, List.setIfInBounds_toArray, List.set_cons_zero, List.set_cons_succ]
          refine wpAnyH_take (i := 23) (v := ?_) rfl (by kernel_rfl) (by kernel_rfl) (by kernel_rfl) (fun _ _ _ h => h) (Or.inl ⟨by kernel_rfl, ?_⟩) (by assumption) ?_
          rotate_left
          · intro w hSw
            (try dsimp only at hSw)
            go_simp
            first | done | with_reducible rfl
          simp only [List.getElem_toArray, List.getElem_cons_zero, List.getElem_cons_succ, Act.put, List.setIfInBounds_toArray, List.set_cons_zero, List.set_cons_succ]
          refine wpAnyH_take (i := 24) (v := ?_) rfl (by kernel_rfl) (by kernel_rfl) (by kernel_rfl) (fun _ _ _ h => h) (Or.inl ⟨by kernel_rfl, ?_⟩) (by assumption) ?_
          rotate_left
          · intro w hSw
            (try dsimp only at hSw)
            go_simp
            first | done | with_reducible rfl
          simp only [List.getElem_toArray, List.getElem_cons_zero, List.getElem_cons_succ, Act.put, List.setIfInBounds_toArray, List.set_cons_zero, List.set_cons_succ]
          refine wpAnyH_take (i := 26) (v := ?_) rfl (by kernel_rfl) (by kernel_rfl) (by kernel_rfl) (fun _ _ _ h => h) (Or.inl ⟨by kernel_rfl, ?_⟩) (by assumption) ?_
          rotate_left
          · intro w hSw
            (try dsimp only at hSw)
            go_simp
            first | done | with_reducible rfl
          simp only [List.getElem_toArray, List.getElem_cons_zero, List.getElem_cons_succ, Act.put, List.setIfInBounds_toArray, List.set_cons_zero, List.set_cons_succ]
          refine wpAnyH_take (i := 27) (v := ?_) rfl (by kernel_rfl) (by kernel_rfl) (by kernel_rfl) (fun _ _ _ h => h) (Or.inl ⟨by kernel_rfl, ?_⟩) (by assumption) ?_
          rotate_left
          · intro w hSw
            (try dsimp only at hSw)
            go_simp
            first | done | with_reducible rfl
          simp only [List.getElem_toArray, List.getElem_cons_zero, List.getElem_cons_succ, Act.put, List.setIfInBounds_toArray, List.set_cons_zero, List.set_cons_succ]
          refine wpAnyH_take (i := 28) (v := .slice none 0 0) rfl (by kernel_rfl) (by kernel_rfl) (by kernel_rfl) (fun _ _ _ h => h) (Or.inl ⟨by kernel_rfl, ?_⟩) (by assumption) ?_
          · intro w hSw
            (try dsimp only at hSw)
            go_simp
            first | done | with_reducible rfl
          simp only [List.getElem_toArray, List.getElem_cons_zero, List.getElem_cons_succ, Act.put, List.setIfInBounds_toArray, List.set_cons_zero, List.set_cons_succ]
          refine wpAnyH_take (i := 30) (v := ?_) rfl (by kernel_rfl) (by kernel_rfl) (by kernel_rfl) (fun _ _ _ h => h) (Or.inl ⟨by kernel_rfl, ?_⟩) (by assumption) ?_
          rotate_left
          · intro w hSw
            (try dsimp only at hSw)
            go_simp
            first | done | with_reducible rfl
          simp only [List.getElem_toArray, List.getElem_cons_zero, List.getElem_cons_succ, Act.put, List.setIfInBounds_toArray, List.set_cons_zero, List.set_cons_succ]
          refine wpAnyH_take (i := 31) (v := ?_) rfl (by kernel_rfl) (by kernel_rfl) (by kernel_rfl) (fun _ _ _ h => h) (Or.inl ⟨by kernel_rfl, ?_⟩) (by assumption) ?_
          rotate_left
          · intro w hSw
            (try dsimp only at hSw)
            go_simp
            first | done | with_reducible rfl
          simp only [List.getElem_toArray, List.getElem_cons_zero, List.getElem_cons_succ, Act.put, List.setIfInBounds_toArray, List.set_cons_zero, List.set_cons_succ]
          refine wpAnyH_take (i := 32) (v := .slice none 0 0) rfl (by kernel_rfl) (by kernel_rfl) (by kernel_rfl) (fun _ _ _ h => h) (Or.inl ⟨by kernel_rfl, ?_⟩) (by assumption) ?_
          · intro w hSw
            (try dsimp only at hSw)
            go_simp
            first | done | with_reducible rfl
          simp only [List.getElem_toArray, List.getElem_cons_zero, List.getElem_cons_succ, Act.put, List.setIfInBounds_toArray, List.set_cons_zero, List.set_cons_succ]
          refine wpAnyH_ready (rs := [25]) (by kernel_rfl) (by simp) ?_
          refine AllReadyH.cons rfl (fun K hK => ?_) ?_
          · simp only [List.getElem_toArray, List.getElem_cons_zero, List.getElem_cons_succ]
            go_simp
            obtain ⟨w_0, hw_0⟩ : ∃ x, x = (wc1_.alloc (.cells mkT16 25)) := ⟨_, rfl⟩
            rw [← hw_0]
            have own_0 : w_0.ownsRow w9.heap.size 25 5 (.slice (some ⟨wc1_.heap.size, 0, none⟩) 0 16) 0 [] := by rw [hw_0]; exact hn_mk wc1_ mkT16 16 25 5 rfl (by decide) _ belc1.size
            have bel_0 : Below w9.heap.size w9 w_0 := by rw [hw_0]; exact bal belc1 _
            clear hw_0
            refine hK.out _ _ trivial (fun hHeld => ?_)
            clear hK K
            try simp only [List.getElem_toArray, List.getElem_cons_zero, List.getElem_cons_succ, Act.put, List.setIfInBounds_toArray, List.set_cons_zero, List.set_cons_succ]
            refine wpAnyH_ready (rs := [29]) (by kernel_rfl) (by simp) ?_
            refine AllReadyH.cons rfl (fun K hK => ?_) ?_
            · refine step_srcg (w0 := w9) (by kernel_rfl) _ _ 40 (by rfl) 25 j0 _ 5 56 Tryd.underlying40 hj0 hj1 hj2 hj3 (by rfl) (by decide) (.slice (some ⟨wc1_.heap.size, 0, none⟩) 0 16) (0) ([]) (by rfl) own_0 bel_0 (.slice none 0 0) (0) ([]) (by rfl) (.inl ⟨rfl, rfl, rfl⟩) (fun u hu => by cases hu) (by unfold maxLen; omega) (by omega) ?_
              intro v5_ w5_ own5_ bel5_ kept5_
              refine hK.out _ _ trivial (fun hHeld => ?_)
              clear hK K
              try simp only [List.getElem_toArray, List.getElem_cons_zero, List.getElem_cons_succ, Act.put, List.setIfInBounds_toArray, List.set_cons_zero, List.set_cons_succ]
              refine wpAnyH_ready (rs := [33]) (by kernel_rfl) (by simp) ?_
              refine AllReadyH.cons rfl (fun K hK => ?_) ?_
              · refine step_srcg (w0 := w9) (by kernel_rfl) _ _ 40 (by rfl) 25 j0 _ 5 56 Tryd.underlying40 hj0 hj1 hj2 hj3 (by rfl) (by decide) (v5_) (0 + (0)) ([] ++ ([])) (by rfl) own5_ bel5_ (.slice none 0 0) (0) ([]) (by rfl) (.inl ⟨rfl, rfl, rfl⟩) (fun u hu => by cases hu) (by unfold maxLen; omega) (by omega) ?_
                intro v6_ w6_ own6_ bel6_ kept6_
                have own7_ : w6_.ownsRow w9.heap.size 25 5 v6_ 0 ((T8.drop 0 ++ T8.take 0).flatMap totL5) := by (have h := own6_; rw [Hnil.out]; exact h)
                obtain ⟨A7_, c7_, hv7_, sl7_, cp7_1, cp7_2⟩ := own_slice2 own7_
                subst hv7_
                refine hK.out _ _ trivial (fun hHeld => ?_)
                clear hK K
                try simp only [List.getElem_toArray, List.getElem_cons_zero, List.getElem_cons_succ, Act.put, List.setIfInBounds_toArray, List.set_cons_zero, List.set_cons_succ]
                refine wpAnyH_ready (rs := [34]) (by kernel_rfl) (by simp) ?_
                refine AllReadyH.cons rfl (fun K hK => ?_) ?_
                · simp only [List.getElem_toArray, List.getElem_cons_zero, List.getElem_cons_succ]
                  go_simp
                  (with_reducible refine (same29_any A9 A7_ c9 c7_ 0 0 (T8.drop 0 ++ T8.take 0) (T8.drop 0 ++ T8.take 0) Hrtl.out Hrtl.out (by omega) true (Lib.hid (decide_eq_true rfl)) w6_ (H9.out.2.2.2.2.go bel6_) sl7_).mono ?_)
                  rintro e wc2_ ⟨rfl, hBc2⟩
                  dsimp only
                  have belc2 : Below w9.heap.size w9 wc2_ := bgo (bel6_) hBc2
                  refine hK.out _ _ trivial (fun hHeld => ?_)
                  clear hK K
                  try simp only [List.getElem_toArray, List.getElem_cons_zero, List.getElem_cons_succ, Act.put, List.setIfInBounds_toArray, List.set_cons_zero, List.set_cons_succ]
                  refine wpAnyH_take (i := 35) (v := ?_) rfl (by kernel_rfl) (by kernel_rfl) (by kernel_rfl) (fun _ _ _ h => h) (Or.inl ⟨by kernel_rfl, ?_⟩) (by assumption) ?_
                  rotate_left
                  · intro w hSw
                    (try dsimp only at hSw)
                    go_simp
                    first | done | with_reducible rfl
                  simp only [List.getElem_toArray, List.getElem_cons_zero, List.getElem_cons_succ, Act.put, List.setIfInBounds_toArray, List.set_cons_zero, List.set_cons_succ]
                  refine wpAnyH_take (i := 36) (v := ?_) rfl (by kernel_rfl) (by kernel_rfl) (by kernel_rfl) (fun _ _ _ h => h) (Or.inl ⟨by kernel_rfl, ?_⟩) (by assumption) ?_
                  rotate_left
                  · intro w hSw
                    (try dsimp only at hSw)
                    go_simp
                    first | done | with_reducible rfl
                  simp only [List.getElem_toArray, List.getElem_cons_zero, List.getElem_cons_succ, Act.put, List.setIfInBounds_toArray, List.set_cons_zero, List.set_cons_succ]
                  refine wpAnyH_done (by kernel_rfl) ?_ _
                  dsimp only [NoPanic]
                  clear hHeld
                  go_wp2_with fail
                  go_meet
                  exact ⟨by first | rfl | simp, belc2⟩
                exact AllReadyH.nil
              exact AllReadyH.nil
            exact AllReadyH.nil
          exact AllReadyH.nil
        exact AllReadyH.nil
      exact AllReadyH.nil
    · subst hA3
      have HSS := Lib.hid (by (have h := H9.out.2.1; exact h))
      have hk1 : 0 ≤ (k : Int) ∧ (k : Int) ≤ (c3 : Int) := by omega
      have hk2 : 0 ≤ (k : Int) ∧ (k : Int) ≤ (m : Int) := by omega
      by_cases hck : c3 = k
      · have Hz0 : Hid (m - k = 0) := Lib.hid (by omega)
        have Hdr0 : Hid (T8.drop k = []) := Lib.hid (List.drop_eq_nil_of_le (by rw [HL.out.len]; omega))
        have Hck := Lib.hid hck
        clear hck
        refine wp_region_noPanic ?_
        refine wp_region_held_drew (S := fun _ => True) (by kernel_rfl) trivial (fun hHeld => ?_)
        try simp only [List.append_eq, List.cons_append, List.nil_append]
        refine wpAnyH_take (i := 0) (v := ?_) rfl (by kernel_rfl) (by kernel_rfl) (by kernel_rfl) (fun _ _ _ h => h) (Or.inl ⟨by kernel_rfl, ?_⟩) (by assumption) ?_
        rotate_left
        · intro w hSw
          (try dsimp only at hSw)
          go_simp
          first | done | with_reducible rfl
        simp only [List.getElem_toArray, List.getElem_cons_zero, List.getElem_cons_succ, Act.put, List.setIfInBounds_toArray, List.set_cons_zero, List.set_cons_succ]
        refine wpAnyH_take (i := 1) (v := ?_) rfl (by kernel_rfl) (by kernel_rfl) (by kernel_rfl) (fun _ _ _ h => h) (Or.inl ⟨by kernel_rfl, ?_⟩) (by assumption) ?_
        rotate_left
        · intro w hSw
          (try dsimp only at hSw)
          go_simp
          first | done | with_reducible rfl
        simp only [List.getElem_toArray, List.getElem_cons_zero, List.getElem_cons_succ, Act.put, List.setIfInBounds_toArray, List.set_cons_zero, List.set_cons_succ]
        refine wpAnyH_take (i := 2) (v := ?_) rfl (by kernel_rfl) (by kernel_rfl) (by kernel_rfl) (fun _ _ _ h => h) (Or.inl ⟨by kernel_rfl, ?_⟩) (by assumption) ?_
        rotate_left
        · intro w hSw
          (try dsimp only at hSw)
          go_simp
          first | done | with_reducible rfl
        simp only [List.getElem_toArray, List.getElem_cons_zero, List.getElem_cons_succ, Act.put, List.setIfInBounds_toArray, List.set_cons_zero, List.set_cons_succ]
        refine wpAnyH_take (i := 3) (v := ?_) rfl (by kernel_rfl) (by kernel_rfl) (by kernel_rfl) (fun _ _ _ h => h) (Or.inl ⟨by kernel_rfl, ?_⟩) (by assumption) ?_
        rotate_left
        · intro w hSw
          (try dsimp only at hSw)
          go_simp
          first | done | with_reducible rfl
        simp only [List.getElem_toArray, List.getElem_cons_zero, List.getElem_cons_succ, Act.put, List.setIfInBounds_toArray, List.set_cons_zero, List.set_cons_succ]
        refine wpAnyH_take (i := 4) (v := ?_) rfl (by kernel_rfl) (by kernel_rfl) (by kernel_rfl) (fun _ _ _ h => h) (Or.inl ⟨by kernel_rfl, ?_⟩) (by assumption) ?_
        rotate_left
        · intro w hSw
          (try dsimp only at hSw)
          go_simp
          first | done | with_reducible rfl
        simp only [List.getElem_toArray, List.getElem_cons_zero, List.getElem_cons_succ, Act.put, List.setIfInBounds_toArray, List.set_cons_zero, List.set_cons_succ]
        refine wpAnyH_take (i := 5) (v := ?_) rfl (by kernel_rfl) (by kernel_rfl) (by kernel_rfl) (fun _ _ _ h => h) (Or.inl ⟨by kernel_rfl, ?_⟩) (by assumption) ?_
        rotate_left
        · intro w hSw
          (try dsimp only at hSw)
          go_simp
          first | done | with_reducible rfl
        simp only [List.getElem_toArray, List.getElem_cons_zero, List.getElem_cons_succ, Act.put, List.setIfInBounds_toArray, List.set_cons_zero, List.set_cons_succ]
        refine wpAnyH_take (i := 6) (v := ?_) rfl (by kernel_rfl) (by kernel_rfl) (by kernel_rfl) (fun _ _ _ h => h) (Or.inl ⟨by kernel_rfl, ?_⟩) (by assumption) ?_
        rotate_left
        · intro w hSw
          (try dsimp only at hSw)
          go_simp
          first | done | with_reducible rfl
        simp only [List.getElem_toArray, List.getElem_cons_zero, List.getElem_cons_succ, Act.put, List.setIfInBounds_toArray, List.set_cons_zero, List.set_cons_succ]
        refine wpAnyH_take (i := 7) (v := ?_) rfl (by kernel_rfl) (by kernel_rfl) (by kernel_rfl) (fun _ _ _ h => h) (Or.inl ⟨by kernel_rfl, ?_⟩) (by assumption) ?_
        rotate_left
        · intro w hSw
          (try dsimp only at hSw)
          go_simp
          first | done | with_reducible rfl
        simp only [List.getElem_toArray, List.getElem_cons_zero, List.getElem_cons_succ, Act.put, List.setIfInBounds_toArray, List.set_cons_zero, List.set_cons_succ]
        refine wpAnyH_take (i := 8) (v := ?_) rfl (by kernel_rfl) (by kernel_rfl) (by kernel_rfl) (fun _ _ _ h => h) (Or.inl ⟨by kernel_rfl, ?_⟩) (by assumption) ?_
        rotate_left
        · intro w hSw
          (try dsimp only at hSw)
          go_simp
          first | done | with_reducible rfl
        simp only [List.getElem_toArray, List.getElem_cons_zero, List.getElem_cons_succ, Act.put, List.setIfInBounds_toArray, List.set_cons_zero, List.set_cons_succ]
        refine wpAnyH_take (i := 9) (v := ?_) rfl (by kernel_rfl) (by kernel_rfl) (by kernel_rfl) (fun _ _ _ h => h) (Or.inl ⟨by kernel_rfl, ?_⟩) (by assumption) ?_
        rotate_left
        · intro w hSw
          (try dsimp only at hSw)
          go_simp
          first | done | with_reducible rfl
        simp only [List.getElem_toArray, List.getElem_cons_zero, List.getElem_cons_succ, Act.put, List.setIfInBounds_toArray, List.set_cons_zero, List.set_cons_succ]
        refine wpAnyH_take (i := 10) (v := ?_) rfl (by kernel_rfl) (by kernel_rfl) (by kernel_rfl) (fun _ _ _ h => h) (Or.inl ⟨by kernel_rfl, ?_⟩) (by assumption) ?_
        rotate_left
        · intro w hSw
          (try dsimp only at hSw)
          go_simp
          first | done | with_reducible rfl
        simp only [List.getElem_toArray, List.getElem_cons_zero, List.getElem_cons_succ, Act.put, List.setIfInBounds_toArray, List.set_cons_zero, List.set_cons_succ]
        refine wpAnyH_take (i := 11) (v := ?_) rfl (by kernel_rfl) (by kernel_rfl) (by kernel_rfl) (fun _ _ _ h => h) (Or.inl ⟨by kernel_rfl, ?_⟩) (by assumption) ?_
        rotate_left
        · intro w hSw
          (try dsimp only at hSw)
          go_simp
          first | done | with_reducible rfl
        simp only [List.getElem_toArray, List.getElem_cons_zero, List.getElem_cons_succ, Act.put, List.setIfInBounds_toArray, List.set_cons_zero, List.set_cons_succ]
        refine wpAnyH_take (i := 12) (v := ?_) rfl (by kernel_rfl) (by kernel_rfl) (by kernel_rfl) (fun _ _ _ h => h) (Or.inl ⟨by kernel_rfl, ?_⟩) (by assumption) ?_
        rotate_left
        · intro w hSw
          (try dsimp only at hSw)
          go_simp
          first | done | with_reducible rfl
        simp only [List.getElem_toArray, List.getElem_cons_zero, List.getElem_cons_succ, Act.put, List.setIfInBounds_toArray, List.set_cons_zero, List.set_cons_succ]
        refine wpAnyH_take (i := 13) (v := ?_) rfl (by kernel_rfl) (by kernel_rfl) (by kernel_rfl) (fun _ _ _ h => h) (Or.inl ⟨by kernel_rfl, ?_⟩) (by assumption) ?_
        rotate_left
        · intro w hSw
          (try dsimp only at hSw)
          go_simp
          first | done | with_reducible rfl
        simp only [List.getElem_toArray, List.getElem_cons_zero, List.getElem_cons_succ, Act.put, List.setIfInBounds_toArray, List.set_cons_zero, List.set_cons_succ]
        refine wpAnyH_take (i := 14) (v := ?_) rfl (by kernel_rfl) (by kernel_rfl) (by kernel_rfl) (fun _ _ _ h => h) (Or.inl ⟨by kernel_rfl, ?_⟩) (by assumption) ?_
        rotate_left
        · intro w hSw
          (try dsimp only at hSw)
          go_simp
          first | done | with_reducible rfl
        simp only [List.getElem_toArray, List.getElem_cons_zero, List.getElem_cons_succ, Act.put, List.setIfInBounds_toArray, List.set_cons_zero, List.set_cons_succ]
        refine wpAnyH_take (i := 15) (v := ?_) rfl (by kernel_rfl) (by kernel_rfl) (by kernel_rfl) (fun _ _ _ h => h) (Or.inl ⟨by kernel_rfl, ?_⟩) (by assumption) ?_
        rotate_left
        · intro w hSw
          (try dsimp only at hSw)
          go_simp
          first | done | with_reducible rfl
        simp only [List.getElem_toArray, List.getElem_cons_zero, List.getElem_cons_succ, Act.put, List.setIfInBounds_toArray, List.set_cons_zero, List.set_cons_succ]
        refine wpAnyH_ready (rs := [16]) (by kernel_rfl) (by simp) ?_
        refine AllReadyH.cons rfl (fun K hK => ?_) ?_
        · simp only [List.getElem_toArray, List.getElem_cons_zero, List.getElem_cons_succ]
          go_simp
          (with_reducible refine (same29_any Aa (some ⟨bb, off, none⟩) ca c3 m m T8 T8 HL.out.len HL.out.len (by omega) true (Lib.hid (decide_eq_true rfl)) w9.drew ((H9.out.2.2.1).go ((Below.refl w9.heap.size w9).drew)) ((H9.out.2.1).go ((Below.refl w9.heap.size w9).drew))).mono ?_)
          rintro e wc0_ ⟨rfl, hBc0⟩
          dsimp only
          have belc0 : Below w9.heap.size w9 wc0_ := bgo ((Below.refl w9.heap.size w9).drew) hBc0
          refine hK.out _ _ trivial (fun hHeld => ?_)
          clear hK K
          try simp only [List.getElem_toArray, List.getElem_cons_zero, List.getElem_cons_succ, Act.put, List.setIfInBounds_toArray, List.set_cons_zero, List.set_cons_succ]
          refine wpAnyH_take (i := 17) (v := ?_) rfl (by kernel_rfl) (by kernel_rfl) (by kernel_rfl) (fun _ _ _ h => h) (Or.inl ⟨by kernel_rfl, ?_⟩) (by assumption) ?_
          rotate_left
          · intro w hSw
            (try dsimp only at hSw)
            go_simp
            first | done | with_reducible rfl
          simp only [List.getElem_toArray, List.getElem_cons_zero, List.getElem_cons_succ, Act.put, List.setIfInBounds_toArray, List.set_cons_zero, List.set_cons_succ]
          refine wpAnyH_take (i := 18) (v := ?_) rfl (by kernel_rfl) (by kernel_rfl) (by kernel_rfl) (fun _ _ _ h => h) (Or.inl ⟨by kernel_rfl, ?_⟩) (by assumption) ?_
          rotate_left
          · intro w hSw
            (try dsimp only at hSw)
            go_simp
            first | done | with_reducible rfl
          simp only [List.getElem_toArray, List.getElem_cons_zero, List.getElem_cons_succ, Act.put, List.setIfInBounds_toArray, List.set_cons_zero, List.set_cons_succ]
          refine wpAnyH_take (i := 19) (v := ?_) rfl (by kernel_rfl) (by kernel_rfl) (by kernel_rfl) (fun _ _ _ h => h) (Or.inl ⟨by kernel_rfl, ?_⟩) (by assumption) ?_
          rotate_left
          · intro w hSw
            (try dsimp only at hSw)
            go_simp
            first | done | with_reducible rfl
          simp only [List.getElem_toArray, List.getElem_cons_zero, List.getElem_cons_succ, Act.put, List.setIfInBounds_toArray, List.set_cons_zero, List.set_cons_succ]
          refine wpAnyH_take (i := 20) (v := ?_) rfl (by kernel_rfl) (by kernel_rfl) (by kernel_rfl) (fun _ _ _ h => h) (Or.inl ⟨by kernel_rfl, ?_⟩) (by assumption) ?_
          rotate_left
          · intro w hSw
            (try dsimp only at hSw)
            go_simp
            first | done | with_reducible rfl
          simp only [List.getElem_toArray, List.getElem_cons_zero, List.getElem_cons_succ, Act.put, List.setIfInBounds_toArray, List.set_cons_zero, List.set_cons_succ]
          refine wpAnyH_ready (rs := [21]) (by kernel_rfl) (by simp) ?_
          refine AllReadyH.cons rfl (fun K hK => ?_) ?_
          · simp only [List.getElem_toArray, List.getElem_cons_zero, List.getElem_cons_succ]
            go_simp
            (with_reducible refine (same29_any Ab (some ⟨bb, off, none⟩) cb c3 m m T8 T8 HL.out.len HL.out.len (by omega) true (Lib.hid (decide_eq_true rfl)) wc0_ ((H9.out.2.2.2.1).go (belc0)) ((H9.out.2.1).go (belc0))).mono ?_)
            rintro e wc1_ ⟨rfl, hBc1⟩
            dsimp only
            have belc1 : Below w9.heap.size w9 wc1_ := bgo (belc0) hBc1
            refine hK.out _ _ trivial (fun hHeld => ?_)
            clear hK K
            try simp only [List.getElem_toArray, List.getElem_cons_zero, List.getElem_cons_succ, Act.put, List.setIfInBounds_toArray, List.set_cons_zero, List.set_cons_succ]
            refine wpAnyH_take (i := 22) (v := ?_) rfl (by kernel_rfl) (by kernel_rfl) (by kernel_rfl) (fun _ _ _ h => h) (Or.inl ⟨by kernel_rfl, ?_⟩) (by assumption) ?_
            rotate_left
            · intro w hSw
              (try dsimp only at hSw)
              go_simp
              first | done | with_reducible rfl
            simp only [List.getElem_toArray, List.getElem_cons_zero, List.getElem_cons_succ, Act.put, List.setIfInBounds_toArray, List.set_cons_zero, List.set_cons_succ]
            refine wpAnyH_take (i := 23) (v := ?_) rfl (by kernel_rfl) (by kernel_rfl) (by kernel_rfl) (fun _ _ _ h => h) (Or.inl ⟨by kernel_rfl, ?_⟩) (by assumption) ?_
            rotate_left
            · intro w hSw
              (try dsimp only at hSw)
              go_simp
              first | done | with_reducible rfl
            simp only [List.getElem_toArray, List.getElem_cons_zero, List.getElem_cons_succ, Act.put, List.setIfInBounds_toArray, List.set_cons_zero, List.set_cons_succ]
            refine wpAnyH_take (i := 24) (v := ?_) rfl (by kernel_rfl) (by kernel_rfl) (by kernel_rfl) (fun _ _ _ h => h) (Or.inl ⟨by kernel_rfl, ?_⟩) (by assumption) ?_
            rotate_left
            · intro w hSw
              (try dsimp only at hSw)
              go_simp
              first | done | with_reducible rfl
            simp only [List.getElem_toArray, List.getElem_cons_zero, List.getElem_cons_succ, Act.put, List.setIfInBounds_toArray, List.set_cons_zero, List.set_cons_succ]
            refine wpAnyH_take (i := 26) (v := ?_) rfl (by kernel_rfl) (by kernel_rfl) (by kernel_rfl) (fun _ _ _ h => h) (Or.inl ⟨by kernel_rfl, ?_⟩) (by assumption) ?_
            rotate_left
            · intro w hSw
              (try dsimp only at hSw)
              go_simp
              first | done | with_reducible rfl
            simp only [List.getElem_toArray, List.getElem_cons_zero, List.getElem_cons_succ, Act.put, List.setIfInBounds_toArray, List.set_cons_zero, List.set_cons_succ]
            refine wpAnyH_take (i := 27) (v := ?_) rfl (by kernel_rfl) (by kernel_rfl) (by kernel_rfl) (fun _ _ _ h => h) (Or.inl ⟨by kernel_rfl, ?_⟩) (by assumption) ?_
            rotate_left
            · intro w hSw
              (try dsimp only at hSw)
              go_simp
              first | done | with_reducible rfl
            simp only [List.getElem_toArray, List.getElem_cons_zero, List.getElem_cons_succ, Act.put, List.setIfInBounds_toArray, List.set_cons_zero, List.set_cons_succ]
            refine wpAnyH_take (i := 28) (v := .slice (some ⟨bb, off, none⟩) (m - k) 0) rfl (by kernel_rfl) (by kernel_rfl) (by kernel_rfl) (fun _ _ _ h => h) (Or.inl ⟨by kernel_rfl, ?_⟩) (by assumption) ?_
            · intro w hSw
              (try dsimp only at hSw)
              have hck_ := Hck.out
              go_simp
              first | done | with_reducible rfl
            simp only [List.getElem_toArray, List.getElem_cons_zero, List.getElem_cons_succ, Act.put, List.setIfInBounds_toArray, List.set_cons_zero, List.set_cons_succ]
            refine wpAnyH_take (i := 30) (v := ?_) rfl (by kernel_rfl) (by kernel_rfl) (by kernel_rfl) (fun _ _ _ h => h) (Or.inl ⟨by kernel_rfl, ?_⟩) (by assumption) ?_
            rotate_left
            · intro w hSw
              (try dsimp only at hSw)
              go_simp
              first | done | with_reducible rfl
            simp only [List.getElem_toArray, List.getElem_cons_zero, List.getElem_cons_succ, Act.put, List.setIfInBounds_toArray, List.set_cons_zero, List.set_cons_succ]
            refine wpAnyH_take (i := 31) (v := ?_) rfl (by kernel_rfl) (by kernel_rfl) (by kernel_rfl) (fun _ _ _ h => h) (Or.inl ⟨by kernel_rfl, ?_⟩) (by assumption) ?_
            rotate_left
            · intro w hSw
              (try dsimp only at hSw)
              go_simp
              first | done | with_reducible rfl
            simp only [List.getElem_toArray, List.getElem_cons_zero, List.getElem_cons_succ, Act.put, List.setIfInBounds_toArray, List.set_cons_zero, List.set_cons_succ]
            refine wpAnyH_take (i := 32) (v := .slice (some ⟨bb, off, none⟩) k c3) rfl (by kernel_rfl) (by kernel_rfl) (by kernel_rfl) (fun _ _ _ h => h) (Or.inl ⟨by kernel_rfl, ?_⟩) (by assumption) ?_
            · intro w hSw
              (try dsimp only at hSw)
              go_simp
              first | done | with_reducible rfl
            simp only [List.getElem_toArray, List.getElem_cons_zero, List.getElem_cons_succ, Act.put, List.setIfInBounds_toArray, List.set_cons_zero, List.set_cons_succ]
            refine wpAnyH_ready (rs := [25]) (by kernel_rfl) (by simp) ?_
            refine AllReadyH.cons rfl (fun K hK => ?_) ?_
            · simp only [List.getElem_toArray, List.getElem_cons_zero, List.getElem_cons_succ]
              go_simp
              obtain ⟨w_0, hw_0⟩ : ∃ x, x = (wc1_.alloc (.cells mkT16 25)) := ⟨_, rfl⟩
              rw [← hw_0]
              have own_0 : w_0.ownsRow w9.heap.size 25 5 (.slice (some ⟨wc1_.heap.size, 0, none⟩) 0 16) 0 [] := by rw [hw_0]; exact hn_mk wc1_ mkT16 16 25 5 rfl (by decide) _ belc1.size
              have bel_0 : Below w9.heap.size w9 w_0 := by rw [hw_0]; exact bal belc1 _
              clear hw_0
              refine hK.out _ _ trivial (fun hHeld => ?_)
              clear hK K
              try simp only [List.getElem_toArray, List.getElem_cons_zero, List.getElem_cons_succ, Act.put, List.setIfInBounds_toArray, List.set_cons_zero, List.set_cons_succ]
              refine wpAnyH_ready (rs := [29]) (by kernel_rfl) (by simp) ?_
              refine AllReadyH.cons rfl (fun K hK => ?_) ?_
              · refine step_srcg (w0 := w9) (by kernel_rfl) _ _ 40 (by rfl) 25 j0 _ 5 56 Tryd.underlying40 hj0 hj1 hj2 hj3 (by rfl) (by decide) (.slice (some ⟨wc1_.heap.size, 0, none⟩) 0 16) (0) ([]) (by rfl) own_0 bel_0 (.slice (some ⟨bb, off, none⟩) (m - k) 0) (m - k) ((T8.drop k).flatMap totL5) (by rfl) (by rw [Hz0.out, Hdr0.out]; exact src_zero9 _ _ _ _) (tots_one' _) (by unfold maxLen; omega) (by omega) ?_
                intro v5_ w5_ own5_ bel5_ kept5_
                refine hK.out _ _ trivial (fun hHeld => ?_)
                clear hK K
                try simp only [List.getElem_toArray, List.getElem_cons_zero, List.getElem_cons_succ, Act.put, List.setIfInBounds_toArray, List.set_cons_zero, List.set_cons_succ]
                refine wpAnyH_ready (rs := [33]) (by kernel_rfl) (by simp) ?_
                refine AllReadyH.cons rfl (fun K hK => ?_) ?_
                · refine step_srcg (w0 := w9) (by kernel_rfl) _ _ 40 (by rfl) 25 j0 _ 5 56 Tryd.underlying40 hj0 hj1 hj2 hj3 (by rfl) (by decide) (v5_) (0 + (m - k)) ([] ++ ((T8.drop k).flatMap totL5)) (by rfl) own5_ bel5_ (.slice (some ⟨bb, off, none⟩) k c3) (k) ((T8.take k).flatMap totL5) (by rfl) (by rw [← hn_takeK totL5 5 (fun _ => rfl)]; exact hn_src ((HSS.out.go bel5_).take k hkm)) (tots_one' _) (by unfold maxLen; omega) (by omega) ?_
                  intro v6_ w6_ own6_ bel6_ kept6_
                  have own7_ : w6_.ownsRow w9.heap.size 25 5 v6_ m ((T8.drop k ++ T8.take k).flatMap totL5) := by (have h := own6_; rw [List.flatMap_append]; rw [List.nil_append, show 0 + (m - k) + k = m by omega] at h; exact h)
                  obtain ⟨A7_, c7_, hv7_, sl7_, cp7_1, cp7_2⟩ := own_slice2 own7_
                  subst hv7_
                  refine hK.out _ _ trivial (fun hHeld => ?_)
                  clear hK K
                  try simp only [List.getElem_toArray, List.getElem_cons_zero, List.getElem_cons_succ, Act.put, List.setIfInBounds_toArray, List.set_cons_zero, List.set_cons_succ]
                  refine wpAnyH_ready (rs := [34]) (by kernel_rfl) (by simp) ?_
                  refine AllReadyH.cons rfl (fun K hK => ?_) ?_
                  · simp only [List.getElem_toArray, List.getElem_cons_zero, List.getElem_cons_succ]
                    go_simp
                    (with_reducible refine (same29_any A9 A7_ c9 c7_ m m (T8.drop k ++ T8.take k) (T8.drop k ++ T8.take k) Hrtl.out Hrtl.out (by omega) true (Lib.hid (decide_eq_true rfl)) w6_ (H9.out.2.2.2.2.go bel6_) sl7_).mono ?_)
                    rintro e wc2_ ⟨rfl, hBc2⟩
                    dsimp only
                    have belc2 : Below w9.heap.size w9 wc2_ := bgo (bel6_) hBc2
                    refine hK.out _ _ trivial (fun hHeld => ?_)
                    clear hK K
                    try simp only [List.getElem_toArray, List.getElem_cons_zero, List.getElem_cons_succ, Act.put, List.setIfInBounds_toArray, List.set_cons_zero, List.set_cons_succ]
                    refine wpAnyH_take (i := 35) (v := ?_) rfl (by kernel_rfl) (by kernel_rfl) (by kernel_rfl) (fun _ _ _ h => h) (Or.inl ⟨by kernel_rfl, ?_⟩) (by assumption) ?_
                    rotate_left
                    · intro w hSw
                      (try dsimp only at hSw)
                      go_simp
                      first | done | with_reducible rfl
                    simp only [List.getElem_toArray, List.getElem_cons_zero, List.getElem_cons_succ, Act.put, List.setIfInBounds_toArray, List.set_cons_zero, List.set_cons_succ]
                    refine wpAnyH_take (i := 36) (v := ?_) rfl (by kernel_rfl) (by kernel_rfl) (by kernel_rfl) (fun _ _ _ h => h) (Or.inl ⟨by kernel_rfl, ?_⟩) (by assumption) ?_
                    rotate_left
                    · intro w hSw
                      (try dsimp only at hSw)
                      go_simp
                      first | done | with_reducible rfl
                    simp only [List.getElem_toArray, List.getElem_cons_zero, List.getElem_cons_succ, Act.put, List.setIfInBounds_toArray, List.set_cons_zero, List.set_cons_succ]
                    refine wpAnyH_done (by kernel_rfl) ?_ _
                    dsimp only [NoPanic]
                    clear hHeld
                    go_wp2_with fail
                    go_meet
                    exact ⟨by first | rfl | simp, belc2⟩
                  exact AllReadyH.nil
                exact AllReadyH.nil
              exact AllReadyH.nil
            exact AllReadyH.nil
          exact AllReadyH.nil
        exact AllReadyH.nil
      · have hck2 : k < c3 := by omega
        refine wp_region_noPanic ?_
        refine wp_region_held_drew (S := fun _ => True) (by kernel_rfl) trivial (fun hHeld => ?_)
        try simp only [List.append_eq, List.cons_append, List.nil_append]
        refine wpAnyH_take (i := 0) (v := ?_) rfl (by kernel_rfl) (by kernel_rfl) (by kernel_rfl) (fun _ _ _ h => h) (Or.inl ⟨by kernel_rfl, ?_⟩) (by assumption) ?_
        rotate_left
        · intro w hSw
          (try dsimp only at hSw)
          go_simp
          first | done | with_reducible rfl
        simp only [List.getElem_toArray, List.getElem_cons_zero, List.getElem_cons_succ, Act.put, List.setIfInBounds_toArray, List.set_cons_zero, List.set_cons_succ]
        refine wpAnyH_take (i := 1) (v := ?_) rfl (by kernel_rfl) (by kernel_rfl) (by kernel_rfl) (fun _ _ _ h => h) (Or.inl ⟨by kernel_rfl, ?_⟩) (by assumption) ?_
        rotate_left
        · intro w hSw
          (try dsimp only at hSw)
          go_simp
          first | done | with_reducible rfl
        simp only [List.getElem_toArray, List.getElem_cons_zero, List.getElem_cons_succ, Act.put, List.setIfInBounds_toArray, List.set_cons_zero, List.set_cons_succ]
        refine wpAnyH_take (i := 2) (v := ?_) rfl (by kernel_rfl) (by kernel_rfl) (by kernel_rfl) (fun _ _ _ h => h) (Or.inl ⟨by kernel_rfl, ?_⟩) (by assumption) ?_
        rotate_left
        · intro w hSw
          (try dsimp only at hSw)
          go_simp
          first | done | with_reducible rfl
        simp only [List.getElem_toArray, List.getElem_cons_zero, List.getElem_cons_succ, Act.put, List.setIfInBounds_toArray, List.set_cons_zero, List.set_cons_succ]
        refine wpAnyH_take (i := 3) (v := ?_) rfl (by kernel_rfl) (by kernel_rfl) (by kernel_rfl) (fun _ _ _ h => h) (Or.inl ⟨by kernel_rfl, ?_⟩) (by assumption) ?_
        rotate_left
        · intro w hSw
          (try dsimp only at hSw)
          go_simp
          first | done | with_reducible rfl
        simp only [List.getElem_toArray, List.getElem_cons_zero, List.getElem_cons_succ, Act.put, List.setIfInBounds_toArray, List.set_cons_zero, List.set_cons_succ]
        refine wpAnyH_take (i := 4) (v := ?_) rfl (by kernel_rfl) (by kernel_rfl) (by kernel_rfl) (fun _ _ _ h => h) (Or.inl ⟨by kernel_rfl, ?_⟩) (by assumption) ?_
        rotate_left
        · intro w hSw
          (try dsimp only at hSw)
          go_simp
          first | done | with_reducible rfl
        simp only [List.getElem_toArray, List.getElem_cons_zero, List.getElem_cons_succ, Act.put, List.setIfInBounds_toArray, List.set_cons_zero, List.set_cons_succ]
        refine wpAnyH_take (i := 5) (v := ?_) rfl (by kernel_rfl) (by kernel_rfl) (by kernel_rfl) (fun _ _ _ h => h) (Or.inl ⟨by kernel_rfl, ?_⟩) (by assumption) ?_
        rotate_left
        · intro w hSw
          (try dsimp only at hSw)
          go_simp
          first | done | with_reducible rfl
        simp only [List.getElem_toArray, List.getElem_cons_zero, List.getElem_cons_succ, Act.put, List.setIfInBounds_toArray, List.set_cons_zero, List.set_cons_succ]
        refine wpAnyH_take (i := 6) (v := ?_) rfl (by kernel_rfl) (by kernel_rfl) (by kernel_rfl) (fun _ _ _ h => h) (Or.inl ⟨by kernel_rfl, ?_⟩) (by assumption) ?_
        rotate_left
        · intro w hSw
          (try dsimp only at hSw)
          go_simp
          first | done | with_reducible rfl
        simp only [List.getElem_toArray, List.getElem_cons_zero, List.getElem_cons_succ, Act.put, List.setIfInBounds_toArray, List.set_cons_zero, List.set_cons_succ]
        refine wpAnyH_take (i := 7) (v := ?_) rfl (by kernel_rfl) (by kernel_rfl) (by kernel_rfl) (fun _ _ _ h => h) (Or.inl ⟨by kernel_rfl, ?_⟩) (by assumption) ?_
        rotate_left
        · intro w hSw
          (try dsimp only at hSw)
          go_simp
          first | done | with_reducible rfl
        simp only [List.getElem_toArray, List.getElem_cons_zero, List.getElem_cons_succ, Act.put, List.setIfInBounds_toArray, List.set_cons_zero, List.set_cons_succ]
        refine wpAnyH_take (i := 8) (v := ?_) rfl (by kernel_rfl) (by kernel_rfl) (by kernel_rfl) (fun _ _ _ h => h) (Or.inl ⟨by kernel_rfl, ?_⟩) (by assumption) ?_
        rotate_left
        · intro w hSw
          (try dsimp only at hSw)
          go_simp
          first | done | with_reducible rfl
        simp only [List.getElem_toArray, List.getElem_cons_zero, List.getElem_cons_succ, Act.put, List.setIfInBounds_toArray, List.set_cons_zero, List.set_cons_succ]
        refine wpAnyH_take (i := 9) (v := ?_) rfl (by kernel_rfl) (by kernel_rfl) (by kernel_rfl) (fun _ _ _ h => h) (Or.inl ⟨by kernel_rfl, ?_⟩) (by assumption) ?_
        rotate_left
        · intro w hSw
          (try dsimp only at hSw)
          go_simp
          first | done | with_reducible rfl
        simp only [List.getElem_toArray, List.getElem_cons_zero, List.getElem_cons_succ, Act.put, List.setIfInBounds_toArray, List.set_cons_zero, List.set_cons_succ]
        refine wpAnyH_take (i := 10) (v := ?_) rfl (by kernel_rfl) (by kernel_rfl) (by kernel_rfl) (fun _ _ _ h => h) (Or.inl ⟨by kernel_rfl, ?_⟩) (by assumption) ?_
        rotate_left
        · intro w hSw
          (try dsimp only at hSw)
          go_simp
          first | done | with_reducible rfl
        simp only [List.getElem_toArray, List.getElem_cons_zero, List.getElem_cons_succ, Act.put, List.setIfInBounds_toArray, List.set_cons_zero, List.set_cons_succ]
        refine wpAnyH_take (i := 11) (v := ?_) rfl (by kernel_rfl) (by kernel_rfl) (by kernel_rfl) (fun _ _ _ h => h) (Or.inl ⟨by kernel_rfl, ?_⟩) (by assumption) ?_
        rotate_left
        · intro w hSw
          (try dsimp only at hSw)
          go_simp
          first | done | with_reducible rfl
        simp only [List.getElem_toArray, List.getElem_cons_zero, List.getElem_cons_succ, Act.put, List.setIfInBounds_toArray, List.set_cons_zero, List.set_cons_succ]
        refine wpAnyH_take (i := 12) (v := ?_) rfl (by kernel_rfl) (by kernel_rfl) (by kernel_rfl) (fun _ _ _ h => h) (Or.inl ⟨by kernel_rfl, ?_⟩) (by assumption) ?_
        rotate_left
        · intro w hSw
          (try dsimp only at hSw)
          go_simp
          first | done | with_reducible rfl
        simp only [List.getElem_toArray, List.getElem_cons_zero, List.getElem_cons_succ, Act.put, List.setIfInBounds_toArray, List.set_cons_zero, List.set_cons_succ]
        refine wpAnyH_take (i := 13) (v := ?_) rfl (by kernel_rfl) (by kernel_rfl) (by kernel_rfl) (fun _ _ _ h => h) (Or.inl ⟨by kernel_rfl, ?_⟩) (by assumption) ?_
        rotate_left
        · intro w hSw
          (try dsimp only at hSw)
          go_simp
          first | done | with_reducible rfl
        simp only [List.getElem_toArray, List.getElem_cons_zero, List.getElem_cons_succ, Act.put, List.setIfInBounds_toArray, List.set_cons_zero, List.set_cons_succ]
        refine wpAnyH_take (i := 14) (v := ?_) rfl (by kernel_rfl) (by kernel_rfl) (by kernel_rfl) (fun _ _ _ h => h) (Or.inl ⟨by kernel_rfl, ?_⟩) (by assumption) ?_
        rotate_left
        · intro w hSw
          (try dsimp only at hSw)
          go_simp
          first | done | with_reducible rfl
        simp only [List.getElem_toArray, List.getElem_cons_zero, List.getElem_cons_succ, Act.put, List.setIfInBounds_toArray, List.set_cons_zero, List.set_cons_succ]
        refine wpAnyH_take (i := 15) (v := ?_) rfl (by kernel_rfl) (by kernel_rfl) (by kernel_rfl) (fun _ _ _ h => h) (Or.inl ⟨by kernel_rfl, ?_⟩) (by assumption) ?_
        rotate_left
        · intro w hSw
          (try dsimp only at hSw)
          go_simp
          first | done | with_reducible rfl
        simp only [List.getElem_toArray, List.getElem_cons_zero, List.getElem_cons_succ, Act.put, List.setIfInBounds_toArray, List.set_cons_zero, List.set_cons_succ]
        refine wpAnyH_ready (rs := [16]) (by kernel_rfl) (by simp) ?_
        refine AllReadyH.cons rfl (fun K hK => ?_) ?_
        · simp only [List.getElem_toArray, List.getElem_cons_zero, List.getElem_cons_succ]
          go_simp
          (with_reducible refine (same29_any Aa (some ⟨bb, off, none⟩) ca c3 m m T8 T8 HL.out.len HL.out.len (by omega) true (Lib.hid (decide_eq_true rfl)) w9.drew ((H9.out.2.2.1).go ((Below.refl w9.heap.size w9).drew)) ((H9.out.2.1).go ((Below.refl w9.heap.size w9).drew))).mono ?_)
          rintro e wc0_ ⟨rfl, hBc0⟩
          dsimp only
          have belc0 : Below w9.heap.size w9 wc0_ := bgo ((Below.refl w9.heap.size w9).drew) hBc0
          refine hK.out _ _ trivial (fun hHeld => ?_)
          clear hK K
          try simp only [List.getElem_toArray, List.getElem_cons_zero, List.getElem_cons_succ, Act.put, List.setIfInBounds_toArray, List.set_cons_zero, List.set_cons_succ]
          refine wpAnyH_take (i := 17) (v := ?_) rfl (by kernel_rfl) (by kernel_rfl) (by kernel_rfl) (fun _ _ _ h => h) (Or.inl ⟨by kernel_rfl, ?_⟩) (by assumption) ?_
          rotate_left
          · intro w hSw
            (try dsimp only at hSw)
            go_simp
            first | done | with_reducible rfl
          simp only [List.getElem_toArray, List.getElem_cons_zero, List.getElem_cons_succ, Act.put, List.setIfInBounds_toArray, List.set_cons_zero, List.set_cons_succ]
          refine wpAnyH_take (i := 18) (v := ?_) rfl (by kernel_rfl) (by kernel_rfl) (by kernel_rfl) (fun _ _ _ h => h) (Or.inl ⟨by kernel_rfl, ?_⟩) (by assumption) ?_
          rotate_left
          · intro w hSw
            (try dsimp only at hSw)
            go_simp
            first | done | with_reducible rfl
          simp only [List.getElem_toArray, List.getElem_cons_zero, List.getElem_cons_succ, Act.put, List.setIfInBounds_toArray, List.set_cons_zero, List.set_cons_succ]
          refine wpAnyH_take (i := 19) (v := ?_) rfl (by kernel_rfl) (by kernel_rfl) (by kernel_rfl) (fun _ _ _ h => h) (Or.inl ⟨by kernel_rfl, ?_⟩) (by assumption) ?_
          rotate_left
          · intro w hSw
            (try dsimp only at hSw)
            go_simp
            first | done | with_reducible rfl
          simp only [List.getElem_toArray, List.getElem_cons_zero, List.getElem_cons_succ, Act.put, List.setIfInBounds_toArray, List.set_cons_zero, List.set_cons_succ]
          refine wpAnyH_take (i := 20) (v := ?_) rfl (by kernel_rfl) (by kernel_rfl) (by kernel_rfl) (fun _ _ _ h => h) (Or.inl ⟨by kernel_rfl, ?_⟩) (by assumption) ?_
          rotate_left
          · intro w hSw
            (try dsimp only at hSw)
            go_simp
            first | done | with_reducible rfl
          simp only [List.getElem_toArray, List.getElem_cons_zero, List.getElem_cons_succ, Act.put, List.setIfInBounds_toArray, List.set_cons_zero, List.set_cons_succ]
          refine wpAnyH_ready (rs := [21]) (by kernel_rfl) (by simp) ?_
          refine AllReadyH.cons rfl (fun K hK => ?_) ?_
          · simp only [List.getElem_toArray, List.getElem_cons_zero, List.getElem_cons_succ]
            go_simp
            (with_reducible refine (same29_any Ab (some ⟨bb, off, none⟩) cb c3 m m T8 T8 HL.out.len HL.out.len (by omega) true (Lib.hid (decide_eq_true rfl)) wc0_ ((H9.out.2.2.2.1).go (belc0)) ((H9.out.2.1).go (belc0))).mono ?_)
            rintro e wc1_ ⟨rfl, hBc1⟩
            dsimp only
            have belc1 : Below w9.heap.size w9 wc1_ := bgo (belc0) hBc1
            refine hK.out _ _ trivial (fun hHeld => ?_)
            clear hK K
            try simp only [List.getElem_toArray, List.getElem_cons_zero, List.getElem_cons_succ, Act.put, List.setIfInBounds_toArray, List.set_cons_zero, List.set_cons_succ]
            refine wpAnyH_take (i := 22) (v := ?_) rfl (by kernel_rfl) (by kernel_rfl) (by kernel_rfl) (fun _ _ _ h => h) (Or.inl ⟨by kernel_rfl, ?_⟩) (by assumption) ?_
            rotate_left
            · intro w hSw
              (try dsimp only at hSw)
              go_simp
              first | done | with_reducible rfl
            simp only [List.getElem_toArray, List.getElem_cons_zero, List.getElem_cons_succ, Act.put, List.setIfInBounds_toArray, List.set_cons_zero, List.set_cons_succ]
            refine wpAnyH_take (i := 23) (v := ?_) rfl (by kernel_rfl) (by kernel_rfl) (by kernel_rfl) (fun _ _ _ h => h) (Or.inl ⟨by kernel_rfl, ?_⟩) (by assumption) ?_
            rotate_left
            · intro w hSw
              (try dsimp only at hSw)
              go_simp
              first | done | with_reducible rfl
            simp only [List.getElem_toArray, List.getElem_cons_zero, List.getElem_cons_succ, Act.put, List.setIfInBounds_toArray, List.set_cons_zero, List.set_cons_succ]
            refine wpAnyH_take (i := 24) (v := ?_) rfl (by kernel_rfl) (by kernel_rfl) (by kernel_rfl) (fun _ _ _ h => h) (Or.inl ⟨by kernel_rfl, ?_⟩) (by assumption) ?_
            rotate_left
            · intro w hSw
              (try dsimp only at hSw)
              go_simp
              first | done | with_reducible rfl
            simp only [List.getElem_toArray, List.getElem_cons_zero, List.getElem_cons_succ, Act.put, List.setIfInBounds_toArray, List.set_cons_zero, List.set_cons_succ]
            refine wpAnyH_take (i := 26) (v := ?_) rfl (by kernel_rfl) (by kernel_rfl) (by kernel_rfl) (fun _ _ _ h => h) (Or.inl ⟨by kernel_rfl, ?_⟩) (by assumption) ?_
            rotate_left
            · intro w hSw
              (try dsimp only at hSw)
              go_simp
              first | done | with_reducible rfl
            simp only [List.getElem_toArray, List.getElem_cons_zero, List.getElem_cons_succ, Act.put, List.setIfInBounds_toArray, List.set_cons_zero, List.set_cons_succ]
            refine wpAnyH_take (i := 27) (v := ?_) rfl (by kernel_rfl) (by kernel_rfl) (by kernel_rfl) (fun _ _ _ h => h) (Or.inl ⟨by kernel_rfl, ?_⟩) (by assumption) ?_
            rotate_left
            · intro w hSw
              (try dsimp only at hSw)
              go_simp
              first | done | with_reducible rfl
            simp only [List.getElem_toArray, List.getElem_cons_zero, List.getElem_cons_succ, Act.put, List.setIfInBounds_toArray, List.set_cons_zero, List.set_cons_succ]
            refine wpAnyH_take (i := 28) (v := .slice (some ⟨bb, off + k * 5, none⟩) (m - k) (c3 - k)) rfl (by kernel_rfl) (by kernel_rfl) (by kernel_rfl) (fun _ _ _ h => h) (Or.inl ⟨by kernel_rfl, ?_⟩) (by assumption) ?_
            · intro w hSw
              (try dsimp only at hSw)
              go_simp
              first | done | with_reducible rfl
            simp only [List.getElem_toArray, List.getElem_cons_zero, List.getElem_cons_succ, Act.put, List.setIfInBounds_toArray, List.set_cons_zero, List.set_cons_succ]
            refine wpAnyH_take (i := 30) (v := ?_) rfl (by kernel_rfl) (by kernel_rfl) (by kernel_rfl) (fun _ _ _ h => h) (Or.inl ⟨by kernel_rfl, ?_⟩) (by assumption) ?_
            rotate_left
            · intro w hSw
              (try dsimp only at hSw)
              go_simp
              first | done | with_reducible rfl
            simp only [List.getElem_toArray, List.getElem_cons_zero, List.getElem_cons_succ, Act.put, List.setIfInBounds_toArray, List.set_cons_zero, List.set_cons_succ]
            refine wpAnyH_take (i := 31) (v := ?_) rfl (by kernel_rfl) (by kernel_rfl) (by kernel_rfl) (fun _ _ _ h => h) (Or.inl ⟨by kernel_rfl, ?_⟩) (by assumption) ?_
            rotate_left
            · intro w hSw
              (try dsimp only at hSw)
              go_simp
              first | done | with_reducible rfl
            simp only [List.getElem_toArray, List.getElem_cons_zero, List.getElem_cons_succ, Act.put, List.setIfInBounds_toArray, List.set_cons_zero, List.set_cons_succ]
            refine wpAnyH_take (i := 32) (v := .slice (some ⟨bb, off, none⟩) k c3) rfl (by kernel_rfl) (by kernel_rfl) (by kernel_rfl) (fun _ _ _ h => h) (Or.inl ⟨by kernel_rfl, ?_⟩) (by assumption) ?_
            · intro w hSw
              (try dsimp only at hSw)
              go_simp
              first | done | with_reducible rfl
            simp only [List.getElem_toArray, List.getElem_cons_zero, List.getElem_cons_succ, Act.put, List.setIfInBounds_toArray, List.set_cons_zero, List.set_cons_succ]
            refine wpAnyH_ready (rs := [25]) (by kernel_rfl) (by simp) ?_
            refine AllReadyH.cons rfl (fun K hK => ?_) ?_
            · simp only [List.getElem_toArray, List.getElem_cons_zero, List.getElem_cons_succ]
              go_simp
              obtain ⟨w_0, hw_0⟩ : ∃ x, x = (wc1_.alloc (.cells mkT16 25)) := ⟨_, rfl⟩
              rw [← hw_0]
              have own_0 : w_0.ownsRow w9.heap.size 25 5 (.slice (some ⟨wc1_.heap.size, 0, none⟩) 0 16) 0 [] := by rw [hw_0]; exact hn_mk wc1_ mkT16 16 25 5 rfl (by decide) _ belc1.size
              have bel_0 : Below w9.heap.size w9 w_0 := by rw [hw_0]; exact bal belc1 _
              clear hw_0
              refine hK.out _ _ trivial (fun hHeld => ?_)
              clear hK K
              try simp only [List.getElem_toArray, List.getElem_cons_zero, List.getElem_cons_succ, Act.put, List.setIfInBounds_toArray, List.set_cons_zero, List.set_cons_succ]
              refine wpAnyH_ready (rs := [29]) (by kernel_rfl) (by simp) ?_
              refine AllReadyH.cons rfl (fun K hK => ?_) ?_
              · refine step_srcg (w0 := w9) (by kernel_rfl) _ _ 40 (by rfl) 25 j0 _ 5 56 Tryd.underlying40 hj0 hj1 hj2 hj3 (by rfl) (by decide) (.slice (some ⟨wc1_.heap.size, 0, none⟩) 0 16) (0) ([]) (by rfl) own_0 bel_0 (.slice (some ⟨bb, off + k * 5, none⟩) (m - k) (c3 - k)) (m - k) ((T8.drop k).flatMap totL5) (by rfl) (by rw [← hn_dropK totL5 5 (fun _ => rfl)]; exact hn_src ((HSS.out.go bel_0).hndrop k hkm)) (tots_one' _) (by unfold maxLen; omega) (by omega) ?_
                intro v5_ w5_ own5_ bel5_ kept5_
                refine hK.out _ _ trivial (fun hHeld => ?_)
                clear hK K
                try simp only [List.getElem_toArray, List.getElem_cons_zero, List.getElem_cons_succ, Act.put, List.setIfInBounds_toArray, List.set_cons_zero, List.set_cons_succ]
                refine wpAnyH_ready (rs := [33]) (by kernel_rfl) (by simp) ?_
                refine AllReadyH.cons rfl (fun K hK => ?_) ?_
                · refine step_srcg (w0 := w9) (by kernel_rfl) _ _ 40 (by rfl) 25 j0 _ 5 56 Tryd.underlying40 hj0 hj1 hj2 hj3 (by rfl) (by decide) (v5_) (0 + (m - k)) ([] ++ ((T8.drop k).flatMap totL5)) (by rfl) own5_ bel5_ (.slice (some ⟨bb, off, none⟩) k c3) (k) ((T8.take k).flatMap totL5) (by rfl) (by rw [← hn_takeK totL5 5 (fun _ => rfl)]; exact hn_src ((HSS.out.go bel5_).take k hkm)) (tots_one' _) (by unfold maxLen; omega) (by omega) ?_
                  intro v6_ w6_ own6_ bel6_ kept6_
                  have own7_ : w6_.ownsRow w9.heap.size 25 5 v6_ m ((T8.drop k ++ T8.take k).flatMap totL5) := by (have h := own6_; rw [List.flatMap_append]; rw [List.nil_append, show 0 + (m - k) + k = m by omega] at h; exact h)
                  obtain ⟨A7_, c7_, hv7_, sl7_, cp7_1, cp7_2⟩ := own_slice2 own7_
                  subst hv7_
                  refine hK.out _ _ trivial (fun hHeld => ?_)
                  clear hK K
                  try simp only [List.getElem_toArray, List.getElem_cons_zero, List.getElem_cons_succ, Act.put, List.setIfInBounds_toArray, List.set_cons_zero, List.set_cons_succ]
                  refine wpAnyH_ready (rs := [34]) (by kernel_rfl) (by simp) ?_
                  refine AllReadyH.cons rfl (fun K hK => ?_) ?_
                  · simp only [List.getElem_toArray, List.getElem_cons_zero, List.getElem_cons_succ]
                    go_simp
                    (with_reducible refine (same29_any A9 A7_ c9 c7_ m m (T8.drop k ++ T8.take k) (T8.drop k ++ T8.take k) Hrtl.out Hrtl.out (by omega) true (Lib.hid (decide_eq_true rfl)) w6_ (H9.out.2.2.2.2.go bel6_) sl7_).mono ?_)
                    rintro e wc2_ ⟨rfl, hBc2⟩
                    dsimp only
                    have belc2 : Below w9.heap.size w9 wc2_ := bgo (bel6_) hBc2
                    refine hK.out _ _ trivial (fun hHeld => ?_)
                    clear hK K
                    try simp only [List.getElem_toArray, List.getElem_cons_zero, List.getElem_cons_succ, Act.put, List.setIfInBounds_toArray, List.set_cons_zero, List.set_cons_succ]
                    refine wpAnyH_take (i := 35) (v := ?_) rfl (by kernel_rfl) (by kernel_rfl) (by kernel_rfl) (fun _ _ _ h => h) (Or.inl ⟨by kernel_rfl, ?_⟩) (by assumption) ?_
                    rotate_left
                    · intro w hSw
                      (try dsimp only at hSw)
                      go_simp
                      first | done | with_reducible rfl
                    simp only [List.getElem_toArray, List.getElem_cons_zero, List.getElem_cons_succ, Act.put, List.setIfInBounds_toArray, List.set_cons_zero, List.set_cons_succ]
                    refine wpAnyH_take (i := 36) (v := ?_) rfl (by kernel_rfl) (by kernel_rfl) (by kernel_rfl) (fun _ _ _ h => h) (Or.inl ⟨by kernel_rfl, ?_⟩) (by assumption) ?_
                    rotate_left
                    · intro w hSw
                      (try dsimp only at hSw)
                      go_simp
                      first | done | with_reducible rfl
                    simp only [List.getElem_toArray, List.getElem_cons_zero, List.getElem_cons_succ, Act.put, List.setIfInBounds_toArray, List.set_cons_zero, List.set_cons_succ]
                    refine wpAnyH_done (by kernel_rfl) ?_ _
                    dsimp only [NoPanic]
                    clear hHeld
                    go_wp2_with fail
                    go_meet
                    exact ⟨by first | rfl | simp, belc2⟩
                  exact AllReadyH.nil
                exact AllReadyH.nil
              exact AllReadyH.nil
            exact AllReadyH.nil
          exact AllReadyH.nil
        exact AllReadyH.nil
  case rest =>
    obtain ⟨rfl, hBx⟩ := hcut
    go_wp2_with fail
    go_ret
    exact ⟨rfl, bgo H9.out.1 hBx⟩
end Go.Proofs.YtmebllhkfepkdaaDoor
