/- made (a list of totals) and distinct of the law package (layer 29). Appends of rows: where the new row lies; slices of rows (layer 29). Issued totals as elements of a list (layer 29). Accept of issued totals that differ (layer 29, plain). -/
import Derived.Test.YtmebllhkfepkdaaDoorQ24
namespace Go.Proofs.YtmebllhkfepkdaaDoor
open Go.RowKit Go.Shelf
set_option linter.unusedVariables false
set_option linter.unusedSimpArgs false
set_option maxRecDepth 100000
def qT (q : Quad) : TotD := madeT q.a q.b q.c q.d
def madeL (qs : List Quad) : List TotD := (qs.take 20).map qT
theorem madeL_len (qs : List Quad) : (madeL qs).length ≤ 20 := by unfold madeL; rw [List.length_map, List.length_take]; omega
theorem madeL_valid (qs : List Quad) : ∀ t ∈ madeL qs, validTB t = true := by
  intro t ht
  obtain ⟨q, _, rfl⟩ := List.mem_map.1 ht
  exact made_valid _ _ _ _
set_option maxHeartbeats 8000000 in
theorem mlist_any (A : Option Addr) (n c : Nat) (qs : List Quad) (hn : qs.length = n) (hnl : n ≤ maxLen) (hq : ∀ q ∈ qs, QuadOk q) (w : World) (hS : Sl w w.heap.size 4 A n (qs.flatMap quadV)) :
    Calls Tryd.prog 14 #[.slice A n c] w fun e w' => ∃ v, e = .returned v ∧ w'.ownsRow w.heap.size 25 5 v (madeL qs).length ((madeL qs).flatMap totL5) ∧ Below w.heap.size w w' := by
  obtain ⟨j0, hj0, hy0, hy1, hy2⟩ := info_parts info_tot
  have HS := Lib.hid hS
  have Hq := Lib.hid hq
  have Hn := Lib.hid hn
  unfold maxLen at hnl
  clear hS hq hn
  go_enter Tryd.func14, Tryd.ntmps14
  go_wp2_with fail
  go_loopw [3, 4] (fun v ix wr => ∃ k : Nat, k ≤ n ∧ k ≤ 20 ∧ ix = .int .i64 (k : Int) ∧ ∃ ts : List TotD, (qs.take k).map qT = ts ∧ ts.length = k ∧ wr.ownsRow w.heap.size 25 5 v ts.length (ts.flatMap totL5) ∧ Below w.heap.size w wr) (fun _ ix _ => n - (intOf ix).toNat)
  case atStart => exact ⟨0, Nat.zero_le _, by omega, rfl, [], rfl, rfl, ⟨rfl, .inl ⟨rfl, rfl⟩⟩, Below.refl _ _⟩
  case round =>
    obtain ⟨k, hk, hk20, rfl, ts, hts, htl, hown, hBr⟩ := hrel
    by_cases hlt : k < n ∧ k < 20
    · obtain ⟨hlt1, hlt2⟩ := hlt
      have hc1 : (k : Int) < (n : Int) := by omega
      have hc2 : (k : Int) < 20 := by omega
      obtain ⟨b, off, rfl, hb, hcell⟩ := HS.out.2 (by omega)
      have hkl : k < qs.length := by rw [Hn.out]; exact hlt1
      have hget := flat_get quadV 4 (fun _ => rfl) qs k hkl
      obtain ⟨q, hqk⟩ : ∃ q, qs[k] = q := ⟨_, rfl⟩
      have hqo := Hq.out q (by rw [← hqk]; exact List.getElem_mem hkl)
      have htk : (qs.take (k + 1)).map qT = ts ++ [qT q] := by rw [List.take_succ_eq_append_getElem hkl, hqk, List.map_append, hts]; rfl
      rw [hqk] at hget
      obtain ⟨qa, qb, qc, qd⟩ := q
      obtain ⟨t, ht⟩ : ∃ t, madeT qa qb qc qd = t := ⟨_, rfl⟩
      have htk2 : (qs.take (k + 1)).map qT = ts ++ [t] := by rw [htk, ← ht]; rfl
      have Htk := Lib.hid htk2
      obtain ⟨te, tp, tm, tg, tx⟩ := t
      have Ht := Lib.hid ht
      have u0 : wr.cell? ⟨b, off + k * 4, none⟩ = some (.int .i64 qa) := (hBr.cell (p := ⟨b, off + k * 4, none⟩) hb).trans (hcell _ _ (hget 0 (by decide)))
      have u1 : wr.cell? ⟨b, off + k * 4 + 1, none⟩ = some (.int .i64 qb) := (hBr.cell (p := ⟨b, off + k * 4 + 1, none⟩) hb).trans (hcell _ _ (hget 1 (by decide)))
      have u2 : wr.cell? ⟨b, off + k * 4 + 2, none⟩ = some (.int .i64 qc) := (hBr.cell (p := ⟨b, off + k * 4 + 2, none⟩) hb).trans (hcell _ _ (hget 2 (by decide)))
      have u3_ : wr.cell? ⟨b, off + k * 4 + 3, none⟩ = some (.int .i64 qd) := (hBr.cell (p := ⟨b, off + k * 4 + 3, none⟩) hb).trans (hcell _ _ (hget 3 (by decide)))
      have Hown := Lib.hid hown
      have Htl := Lib.hid htl
      have hqo1 := hqo.1
      have hqo2 := hqo.2.1
      have hqo3 := hqo.2.2.1
      have hqo4 := hqo.2.2.2
      have Hqo := Lib.hid (And.intro hqo1 (And.intro hqo2 (And.intro hqo3 hqo4)))
      clear hcell hget hqk hqo htk htk2 ht hown htl hts hkl hqo1 hqo2 hqo3 hqo4
      go_wp2_with fail
      refine (made_any qa qb qc qd te tp tm tg tx Ht Hqo.out.1 Hqo.out.2.1 Hqo.out.2.2.1 Hqo.out.2.2.2 wr).mono ?_
      rintro e w2 ⟨rfl, hB2⟩
      have hBw2 := bgo hBr hB2
      have own2 := own_below Hown.out hB2
      have hb0 : w.heap.size ≤ w2.heap.size := hBw2.size
      have htl1 : ts.length = k := Htl.out
      have H2 := Lib.hid (And.intro hBw2 own2)
      clear u0 u1 u2 u3_ hB2 hBw2 own2
      go_wp2_with (first
        | (at_builtin; refine app_src2 (w0 := w) w.heap.size (Nat.le_refl _) ?c0 rfl _ _ 40 rfl 25 j0 _ 5 56 Tryd.underlying40 hj0 hy0 hy1 hy2 rfl (by decide) u3 ts.length (ts.flatMap totL5) rfl (H2.out.2.alloc _) (bal H2.out.1 _) (.slice (some ⟨w2.heap.size, 0, none⟩) 1 1) 1 [.string te, .string tp, .int .i64 tm, .int .i64 tg, .int .i64 tx] rfl (block_src w2 [.string te, .string tp, .int .i64 tm, .int .i64 tg, .int .i64 tx] _ _ 1 1 5 rfl) (by simp [Value.oneCell']) (by unfold maxLen; omega) (by omega) ?_)
        | go_in)
      case c0 => first | omega | (simp; omega) | (rw [World.size_alloc]; omega)
      intro v7 w7 own7 bel7 kept7
      have Hy := Lib.hid (And.intro own7 bel7)
      clear own7 bel7 kept7
      go_wp2_with fail
      go_roundw
      case rel => exact ⟨k + 1, by omega, by omega, by go_num, ts ++ [⟨te, tp, tm, tg, tx⟩], Htk.out, by simp [Htl.out], by (have h := Hy.out.1; rw [List.flatMap_append, List.length_append, Htl.out]; exact h), Hy.out.2⟩
      case measure => simp [intOf]; omega
    · have hfin : madeL qs = ts := by
        unfold madeL
        rw [← hts]
        by_cases h : k < n
        · have : k = 20 := by omega
          rw [this]
        · have hkn : k = n := by omega
          rw [List.take_of_length_le (show qs.length ≤ 20 by rw [Hn.out]; omega), List.take_of_length_le (show qs.length ≤ k by rw [Hn.out]; omega)]
      have Hfin := Lib.hid hfin
      have Hx := Lib.hid (And.intro hown hBr)
      clear hfin hown hBr hts htl
      by_cases hc : k < n
      · have hc1 : (k : Int) < (n : Int) := by omega
        have hc2 : ¬ (k : Int) < 20 := by omega
        go_wp2
        go_ret
        exact ⟨_, rfl, by rw [Hfin.out]; exact Hx.out.1, Hx.out.2⟩
      · have hc1 : ¬ (k : Int) < (n : Int) := by omega
        go_wp2
        go_ret
        exact ⟨_, rfl, by rw [Hfin.out]; exact Hx.out.1, Hx.out.2⟩
theorem newT_succ {os : List TotD} {q : Nat} {u t : TotD} (h : os[q]? = some u) : newT (os.take (q + 1)) t = (newT (os.take q) t && (decide (u.e ≠ t.e) || decide (u.p ≠ t.p) || decide (u.m ≠ t.m))) := by
  unfold newT
  rw [List.take_add_one, h, Option.toList_some, List.all_append]
  simp
theorem str_ne {a b : ByteArray} (h : ¬ a = b) : (a.toList != b.toList) = true := by
  rw [bne_iff_ne]
  intro e
  rw [ByteArray.toList_eq, ByteArray.toList_eq] at e
  exact h (bytes_eq e)
theorem str_eqs {a b : ByteArray} (h : a = b) : (a.toList == b.toList) = true := by rw [h]; simp
theorem str_nes {a b : ByteArray} (h : ¬ a = b) : (a.toList == b.toList) = false := by
  have := str_ne h
  rw [bne] at this
  simpa using this
theorem str_same {a b : ByteArray} (h : a = b) : (a.toList != b.toList) = false := by rw [h]; simp
set_option maxHeartbeats 8000000 in
theorem dist_any (A : Option Addr) (n c : Nat) (ts : List TotD) (hn : ts.length = n) (hnl : n ≤ 100) (w : World) (hS : Sl w w.heap.size 5 A n (ts.flatMap totL5)) :
    Calls Tryd.prog 13 #[.slice A n c] w fun e w' => ∃ v, e = .returned v ∧ w'.ownsRow w.heap.size 25 5 v (distT ts).length ((distT ts).flatMap totL5) ∧ Below w.heap.size w w' := by
  obtain ⟨j0, hj0, hy0, hy1, hy2⟩ := info_parts info_tot
  have HS := Lib.hid hS
  have Hn := Lib.hid hn
  clear hS hn
  go_enter Tryd.func13, Tryd.ntmps13
  go_wp2_with fail
  go_loopw [3, 4] (fun v ix wr => ∃ k : Nat, k ≤ n ∧ ix = .int .i64 (k : Int) ∧ ∃ os : List TotD, distT (ts.take k) = os ∧ wr.ownsRow w.heap.size 25 5 v os.length (os.flatMap totL5) ∧ Below w.heap.size w wr) (fun _ ix _ => n - (intOf ix).toNat)
  case atStart => exact ⟨0, Nat.zero_le _, rfl, [], rfl, ⟨rfl, .inl ⟨rfl, rfl⟩⟩, Below.refl _ _⟩
  case round =>
    obtain ⟨k, hk, rfl, os, hos, hown, hBr⟩ := hrel
    obtain ⟨wo, hwo⟩ : ∃ x, x = wr := ⟨_, rfl⟩
    subst hwo
    by_cases hlt : k < n
    · have hc1 : (k : Int) < (n : Int) := by omega
      have hol : os.length ≤ k := by rw [← hos]; exact Nat.le_trans (distT_len _) (by rw [List.length_take]; omega)
      obtain ⟨b, off, rfl, hb, hcell⟩ := HS.out.2 (by omega)
      have hkl : k < ts.length := by rw [Hn.out]; exact hlt
      have hget := flat_get totL5 5 (fun _ => rfl) ts k hkl
      obtain ⟨t, ht⟩ : ∃ t, ts[k] = t := ⟨_, rfl⟩
      have htm : ts[k]? = some t := by rw [List.getElem?_eq_getElem hkl, ht]
      have hnx := dist_take_succ htm
      rw [hos] at hnx
      rw [ht] at hget
      obtain ⟨te, tp, tm, tg, tx⟩ := t
      have hBc : ∀ (W : World), Below wo.heap.size wo W → ∀ j u, (totL5 ⟨te, tp, tm, tg, tx⟩)[j]? = some u → j < 5 → W.cell? ⟨b, off + k * 5 + j, none⟩ = some u := fun W hW j u hu hj =>
        ((bgo hBr hW).cell (p := ⟨b, off + k * 5 + j, none⟩) hb).trans (by rw [Nat.add_assoc]; exact hcell _ _ ((hget j hj).trans hu))
      have HBc := Lib.hid hBc
      have Hnx := Lib.hid hnx
      obtain ⟨A2, cap, rfl, hSl, hcp1, hcp2⟩ := own_slice2 hown
      have Hown := Lib.hid hown
      have HSl := Lib.hid hSl
      have Hcp := Lib.hid (And.intro hcp1 hcp2)
      obtain ⟨m, hm⟩ : ∃ m, m = os.length := ⟨_, rfl⟩
      rw [← hm] at HSl Hown hol ⊢
      have Hm := Lib.hid hm
      clear hcell hget ht htm hnx hos hBc hown hSl hcp1 hcp2 hkl hm
      go_wp2_with fail
      go_loopw [5, 6] (fun ib iq wr => ∃ q : Nat, q ≤ m ∧ iq = .int .i64 (q : Int) ∧ ∃ bb : Bool, newT (os.take q) ⟨te, tp, tm, tg, tx⟩ = bb ∧ ib = .bool bb ∧ Below wo.heap.size wo wr) (fun _ iq _ => m - (intOf iq).toNat)
      case atStart => exact ⟨0, Nat.zero_le _, rfl, true, rfl, rfl, Below.refl _ _⟩
      case round =>
        obtain ⟨q, hq, rfl, bb, hbb, rfl, hBi⟩ := hrel
        by_cases hqm : q < m
        · have hd1 : (q : Int) < (m : Int) := by omega
          obtain ⟨b2, off2, rfl, hb2, hcell2⟩ := HSl.out.2 (by omega)
          have hql : q < os.length := by rw [← Hm.out]; exact hqm
          have hget2 := flat_get totL5 5 (fun _ => rfl) os q hql
          obtain ⟨u, hu⟩ : ∃ u, os[q] = u := ⟨_, rfl⟩
          have hum : os[q]? = some u := by rw [List.getElem?_eq_getElem hql, hu]
          have hns := newT_succ (t := ⟨te, tp, tm, tg, tx⟩) hum
          rw [hbb] at hns
          rw [hu] at hget2
          obtain ⟨ue, up, um, ug, ux⟩ := u
          dsimp only at hns
          have g0 : wr.cell? ⟨b2, off2 + q * 5, none⟩ = some (.string ue) := (hBi.cell (p := ⟨b2, off2 + q * 5, none⟩) hb2).trans (hcell2 _ _ (hget2 0 (by decide)))
          have g1 : wr.cell? ⟨b2, off2 + q * 5 + 1, none⟩ = some (.string up) := (hBi.cell (p := ⟨b2, off2 + q * 5 + 1, none⟩) hb2).trans (hcell2 _ _ (hget2 1 (by decide)))
          have g2 : wr.cell? ⟨b2, off2 + q * 5 + 2, none⟩ = some (.int .i64 um) := (hBi.cell (p := ⟨b2, off2 + q * 5 + 2, none⟩) hb2).trans (hcell2 _ _ (hget2 2 (by decide)))
          have k0 : wr.cell? ⟨b, off + k * 5, none⟩ = some (.string te) := HBc.out wr hBi 0 _ rfl (by decide)
          have k1 : wr.cell? ⟨b, off + k * 5 + 1, none⟩ = some (.string tp) := HBc.out wr hBi 1 _ rfl (by decide)
          have k2 : wr.cell? ⟨b, off + k * 5 + 2, none⟩ = some (.int .i64 tm) := HBc.out wr hBi 2 _ rfl (by decide)
          clear hcell2 hget2 hu hum hql
          cases bb with
          | false =>
            have Hns := Lib.hid hns
            clear hns hbb
            go_wp2_with fail
            go_quiet (fail)
            go_wp2_with fail
            go_roundw
            case rel => exact ⟨q + 1, by omega, by go_num, false, by rw [Hns.out]; rfl, rfl, below_drewN hBi _⟩
            case measure => simp [intOf]; omega
          | true =>
            rw [Bool.true_and] at hns
            by_cases he : ue = te
            · rw [decide_eq_false (show ¬ (ue ≠ te) from fun h => h he), Bool.false_or] at hns
              have f1 : (ue.toList == te.toList) = true := str_eqs he
              by_cases hp : up = tp
              · rw [decide_eq_false (show ¬ (up ≠ tp) from fun h => h hp), Bool.false_or] at hns
                have f2 : (up.toList == tp.toList) = true := str_eqs hp
                obtain ⟨r, hr⟩ : ∃ r, (um == tm) = r := ⟨_, rfl⟩
                have Hns := Lib.hid (show newT (os.take (q + 1)) ⟨te, tp, tm, tg, tx⟩ = !r by rw [hns, ← hr]; by_cases h : um = tm <;> simp [h])
                clear hns hbb he hp
                go_wp2_with fail
                go_quiet (fail)
                go_wp2_with fail
                go_roundw
                case rel => exact ⟨q + 1, by omega, by go_num, !r, Hns.out, by (show Value.bool (!(um == tm)) = _; rw [hr]), below_drewN hBi _⟩
                case measure => simp [intOf]; omega
              · have f2 : (up.toList == tp.toList) = false := str_nes hp
                have Hns := Lib.hid (show newT (os.take (q + 1)) ⟨te, tp, tm, tg, tx⟩ = true by rw [hns, decide_eq_true hp]; rfl)
                clear hns hbb he hp
                go_wp2_with fail
                go_quiet (fail)
                go_wp2_with fail
                go_roundw
                case rel => exact ⟨q + 1, by omega, by go_num, true, Hns.out, rfl, below_drewN hBi _⟩
                case measure => simp [intOf]; omega
            · have f1 : (ue.toList == te.toList) = false := str_nes he
              have Hns := Lib.hid (show newT (os.take (q + 1)) ⟨te, tp, tm, tg, tx⟩ = true by rw [hns, decide_eq_true he]; rfl)
              clear hns hbb he
              go_wp2_with fail
              go_quiet (fail)
              go_wp2_with fail
              go_roundw
              case rel => exact ⟨q + 1, by omega, by go_num, true, Hns.out, rfl, below_drewN hBi _⟩
              case measure => simp [intOf]; omega
        · have hqe : q = m := by omega
          have hd1 : ¬ (q : Int) < (m : Int) := by omega
          have hnb : newT os ⟨te, tp, tm, tg, tx⟩ = bb := by
            rw [← hbb, List.take_of_length_le (by rw [← Hm.out]; omega)]
          have hdx : distStep os ⟨te, tp, tm, tg, tx⟩ = if bb = true then os ++ [⟨te, tp, tm, tg, tx⟩] else os := by unfold distStep; rw [hnb]
          have hBwi := bgo hBr hBi
          have ownI := own_below Hown.out hBi
          clear hqe hnb hbb
          cases bb with
          | false =>
            have Hdx := Lib.hid (show distT (ts.take (k + 1)) = os by rw [Hnx.out, hdx]; rfl)
            have Hx := Lib.hid (And.intro ownI hBwi)
            clear hdx ownI hBwi
            go_wp2_with fail
            go_roundw
            case rel => exact ⟨k + 1, by omega, by go_num, os, Hdx.out, by rw [← Hm.out]; exact Hx.out.1, Hx.out.2⟩
            case measure => simp [intOf]; omega
          | true =>
            have Hdx := Lib.hid (show distT (ts.take (k + 1)) = os ++ [⟨te, tp, tm, tg, tx⟩] by rw [Hnx.out, hdx]; rfl)
            have Hx := Lib.hid (And.intro ownI hBwi)
            have k0 : wr.cell? ⟨b, off + k * 5, none⟩ = some (.string te) := HBc.out wr hBi 0 _ rfl (by decide)
            have k1 : wr.cell? ⟨b, off + k * 5 + 1, none⟩ = some (.string tp) := HBc.out wr hBi 1 _ rfl (by decide)
            have k2 : wr.cell? ⟨b, off + k * 5 + 2, none⟩ = some (.int .i64 tm) := HBc.out wr hBi 2 _ rfl (by decide)
            have k3 : wr.cell? ⟨b, off + k * 5 + 3, none⟩ = some (.int .i64 tg) := HBc.out wr hBi 3 _ rfl (by decide)
            have k4 : wr.cell? ⟨b, off + k * 5 + 4, none⟩ = some (.int .i64 tx) := HBc.out wr hBi 4 _ rfl (by decide)
            have hb0 : w.heap.size ≤ wr.heap.size := hBwi.size
            clear hdx ownI hBwi
            go_wp2_with (first
              | (at_builtin; refine app_src2 (w0 := w) w.heap.size (Nat.le_refl _) ?c0 rfl _ _ 40 rfl 25 j0 _ 5 56 Tryd.underlying40 hj0 hy0 hy1 hy2 rfl (by decide) (.slice A2 m cap) m (os.flatMap totL5) rfl (Hx.out.1.alloc _) (bal Hx.out.2 _) (.slice (some ⟨wr.heap.size, 0, none⟩) 1 1) 1 [.string te, .string tp, .int .i64 tm, .int .i64 tg, .int .i64 tx] rfl (block_src wr [.string te, .string tp, .int .i64 tm, .int .i64 tg, .int .i64 tx] _ _ 1 1 5 rfl) (by simp [Value.oneCell']) (by unfold maxLen; omega) (by omega) ?_)
              | go_in)
            case c0 => first | omega | (simp; omega) | (rw [World.size_alloc]; omega)
            intro v7 w7 own7 bel7 kept7
            have Hy := Lib.hid (And.intro own7 bel7)
            clear own7 bel7 kept7 k0 k1 k2 k3 k4
            go_wp2_with fail
            go_roundw
            case rel => exact ⟨k + 1, by omega, by go_num, os ++ [⟨te, tp, tm, tg, tx⟩], Hdx.out, by (have h := Hy.out.1; rw [List.flatMap_append, List.length_append, ← Hm.out]; exact h), Hy.out.2⟩
            case measure => simp [intOf]; omega
    · obtain rfl : n = k := by omega
      have hc1 : ¬ (n : Int) < (n : Int) := by omega
      have hfin : distT ts = os := by rw [← hos, List.take_of_length_le (by rw [Hn.out]; omega)]
      have Hfin := Lib.hid hfin
      have Hx := Lib.hid (And.intro hown hBr)
      clear hfin hown hBr hos
      go_wp2
      go_ret
      exact ⟨_, rfl, by rw [Hfin.out]; exact Hx.out.1, Hx.out.2⟩
end Go.Proofs.YtmebllhkfepkdaaDoor
namespace Go.Proofs.YtmebllhkfepkdaaDoor
open Go.RowKit
set_option linter.unusedVariables false
set_option linter.unusedSimpArgs false
theorem hn_takeK {α : Type} (f : α → List Value) (c : Nat) (hf : ∀ x, (f x).length = c) : ∀ (l : List α) (k : Nat), (l.flatMap f).take (k * c) = (l.take k).flatMap f
  | [], k => by simp
  | x :: l, 0 => by simp
  | x :: l, k + 1 => by
    rw [List.flatMap_cons, List.take_succ_cons, List.flatMap_cons, ← hn_takeK f c hf l k, List.take_append, hf, Nat.add_mul, Nat.one_mul, Nat.add_sub_cancel, List.take_of_length_le (by rw [hf]; omega)]
theorem hn_dropK {α : Type} (f : α → List Value) (c : Nat) (hf : ∀ x, (f x).length = c) : ∀ (l : List α) (k : Nat), (l.flatMap f).drop (k * c) = (l.drop k).flatMap f
  | [], k => by simp
  | x :: l, 0 => by simp
  | x :: l, k + 1 => by
    rw [List.flatMap_cons, List.drop_succ_cons, ← hn_dropK f c hf l k, List.drop_append, hf, Nat.add_mul, Nat.one_mul, Nat.add_sub_cancel, List.drop_of_length_le (by rw [hf]; omega), List.nil_append]
theorem hn_src {W : World} {B size n c b off : Nat} {xs : List Value} (h : Sl W B size (some ⟨b, off, none⟩) n xs) : Src W size (.slice (some ⟨b, off, none⟩) n c) n xs := by
  refine .inr ⟨_, c, rfl, h.1, fun j u hu => ?_⟩
  rcases Nat.eq_zero_or_pos n with h0 | h0
  · have hl := h.1
    rw [h0, Nat.zero_mul] at hl
    have := (List.getElem?_eq_some_iff.1 hu).1
    omega
  · obtain ⟨b', off', e, _, hc⟩ := h.2 h0
    injection e with e; injection e with e1 e2
    subst e1; subst e2
    rw [Addr.add_lit]
    exact hc j u hu
theorem Sl.hndrop {W : World} {B size n b off : Nat} {xs : List Value} (h : Sl W B size (some ⟨b, off, none⟩) n xs) (k : Nat) (hk : k ≤ n) : Sl W B size (some ⟨b, off + k * size, none⟩) (n - k) (xs.drop (k * size)) := by
  refine ⟨by rw [List.length_drop, h.1, Nat.sub_mul], fun h0 => ?_⟩
  obtain ⟨b', off', e, hb, hc⟩ := h.2 (by omega)
  injection e with e; injection e with e1 e2
  subst e1; subst e2
  refine ⟨b, off + k * size, rfl, hb, fun j u hu => ?_⟩
  rw [List.getElem?_drop] at hu
  rw [Nat.add_assoc]
  exact hc _ _ hu
theorem hn_mk (W : World) (cur : Array Value) (k : Nat) (e : TypeId) (size : Nat) (h : cur.size = k * size) (hk : k ≤ maxLen) (base : Nat) (hb : base ≤ W.heap.size) : (W.alloc (.cells cur e)).ownsRow base e size (.slice (some ⟨W.heap.size, 0, none⟩) 0 k) 0 [] :=
  ⟨by simp, .inr ⟨W.heap.size, k, cur, rfl, hb, World.alloc_heap_new W _, Nat.zero_le _, hk, h, by simp⟩⟩
theorem own_shape {W : World} {base : Nat} {e : TypeId} {size n : Nat} {v : Value} {xs : List Value} (h : W.ownsRow base e size v n xs) :
    (v = .slice none 0 0 ∧ n = 0) ∨ ∃ b off cap, v = .slice (some ⟨b, off, none⟩) n cap ∧ Sl W W.heap.size size (some ⟨b, off, none⟩) n xs ∧ n ≤ cap ∧ cap ≤ maxLen := by
  obtain ⟨A, cap, hv, hs, h1, h2⟩ := own_slice2 h
  rcases h.2 with h3 | ⟨g, cap', cur, h3, _⟩
  · exact .inl h3
  · rw [h3] at hv
    injection hv with e1 e2 e3
    subst e1 e3
    exact .inr ⟨g, 0, cap', h3, hs, h1, h2⟩
theorem src_zero9 (W : World) (size : Nat) (a : Addr) (c : Nat) : Src W size (.slice (some a) 0 c) 0 [] := .inr ⟨a, c, rfl, by simp, fun j u hu => by simp at hu⟩
/-- Where the row lies that an append has made. -/
theorem run_where {P : Program} {W : World} (base : Nat) (t ty e : TypeId) (i : TypeInfo) (z : Value) (size bytes : Nat) (ht : P.underlying t = some (.slice e)) (hi : P.info? e = some i) (hz : i.zero = some z)
    (hsize : i.size = size) (hby : i.bytes = bytes) (v : Value) (n : Nat) (xs : List Value) (hown : W.ownsRow base e size v n xs)
    (sv : Value) (m : Nat) (cs : List Value) (hsrc : Src W size sv m cs) (h1 : ∀ u ∈ cs, u.oneCell' = true) (h0 : 0 < m) (h63 : n + m ≤ maxLen) (hbytes : (n + m) * bytes ≤ 140737488355328) {v' : Value} {w' : World}
    (hr : (Builtin.append_ #[t, t] ty #[v, sv]).run P W = .ok v' w') : v'.ownBlock = v.ownBlock ∨ v'.ownBlock = some W.heap.size := by
  subst hsize hby
  unfold maxLen at h63
  rcases hsrc with ⟨_, h, _⟩ | ⟨ad, c, rfl, hl, hc⟩
  · omega
  · rcases hown.2 with ⟨rfl, rfl⟩ | ⟨g, cap, cur, rfl, hbg, hg, hnc, hcm, hcs, htake⟩
    · have hx : xs = [] := List.eq_nil_of_length_eq_zero (by simpa using hown.1)
      subst hx
      have h := run_append_nil (P := P) W t ty e i z ht hi hz ad m c cs hl hc h0 (by omega) (by simp at hbytes; omega)
      rw [h] at hr
      injection hr with e1 e2
      rw [← e1]
      exact .inr rfl
    · by_cases hroom : n + m ≤ cap
      · have hfit : n * i.size + cs.length ≤ cur.size := by rw [hl, hcs, ← Nat.add_mul]; exact Nat.mul_le_mul_right _ hroom
        have h := run_append_room (P := P) W t ty e i ht hi g n cap cur hg ad m c cs hl hc h1 hroom hfit
        rw [h] at hr
        injection hr with e1 e2
        rw [← e1]
        exact .inl rfl
      · have holds : ∀ j u, xs[j]? = some u → W.cell? ((⟨g, 0, none⟩ : Addr).add j) = some u := hown.cells (g := g) rfl
        have h := run_append_grow (P := P) W t ty e i z ht hi hz ⟨g, 0, none⟩ n cap xs hown.1 holds ad m c cs hl hc (by omega) (by omega) (growslice_fits (by omega) hbytes)
        rw [h] at hr
        injection hr with e1 e2
        rw [← e1]
        exact .inr rfl
theorem app_src3 {P : Program} {W w0 : World} {ops : Array Oper} {rest : List Oper} {o : Oper} {a : Act} {Q : Exit → Act → World → Prop} (base : Nat) (hb0 : w0.heap.size ≤ base) (hbW : base ≤ W.heap.size) (hgd : o.guard = none) (s x : Operand) (t : TypeId)
    (ho : o.op = .call { callee := .builtin .append, args := #[s, x], argTypes := #[t, t] }) (e : TypeId) (i : TypeInfo) (z : Value) (size bytes : Nat) (ht : P.underlying t = some (.slice e)) (hi : P.info? e = some i) (hz : i.zero = some z)
    (hsize : i.size = size) (hby : i.bytes = bytes) (hzs : z.cells.size = size) (hsz : 0 < size) (v : Value) (n : Nat) (xs : List Value) (hs : a.eval s = v) (hown : W.ownsRow base e size v n xs) (hB : Below w0.heap.size w0 W)
    (sv : Value) (m : Nat) (cs : List Value) (hx : a.eval x = sv) (hsrc : Src W size sv m cs) (h1 : ∀ u ∈ cs, u.oneCell' = true) (h0 : 0 < m) (h63 : n + m ≤ maxLen) (hbytes : (n + m) * bytes ≤ 140737488355328)
    (h : ∀ v' w', w'.ownsRow base e size v' (n + m) (xs ++ cs) → Below w0.heap.size w0 w' → Kept W v w' → (v'.ownBlock = v.ownBlock ∨ v'.ownBlock = some W.heap.size) → wpList P ops Q rest (a.put o.dst v') w') : wpList P ops Q (o :: rest) a W := by
  obtain ⟨v', w', hr, h2, h3, h4⟩ := run_app2 base hb0 hbW (ty := o.type) t e i z size bytes ht hi hz hsize hby hzs hsz v n xs hown hB sv m cs hsrc h1 h63 hbytes
  have hw := run_where base t o.type e i z size bytes ht hi hz hsize hby v n xs hown sv m cs hsrc h1 h0 h63 hbytes hr
  refine wpList_plain hgd fun K hK => ?_
  unfold Oper.wp
  simp [execOp, ho, resolve, invoke, builtin, hs, hx, hr, Result.andThen]
  exact hK _ _ (h v' w' h2 h3 h4 hw)
/-- Two rows of the call's own that do not share a block. -/
def OwnApart (u v : Value) : Prop := ∀ g, u.ownBlock = some g → v.ownBlock ≠ some g
theorem OwnApart.symm {u v : Value} (h : OwnApart u v) : OwnApart v u := fun g hv hu => h g hu hv
theorem OwnApart.nil (v : Value) : OwnApart (.slice none 0 0) v := fun g h => by cases h
theorem OwnApart.app {u v v' : Value} {W : World} {base : Nat} {e : TypeId} {size n : Nat} {xs : List Value} (h : OwnApart u v) (hw : v'.ownBlock = v.ownBlock ∨ v'.ownBlock = some W.heap.size) (hu : W.ownsRow base e size u n xs) : OwnApart u v' := by
  intro g hg hv
  rcases hw with k | k
  · exact h g hg (k.symm.trans hv)
  · rw [k] at hv
    injection hv with hv
    have := (own_far' hu hg).2
    omega
theorem OwnApart.keep {W W' : World} {u v : Value} {base : Nat} {e : TypeId} {size n : Nat} {xs : List Value} (h : OwnApart u v) (hu : W.ownsRow base e size u n xs) (k : Kept W v W') : W'.ownsRow base e size u n xs :=
  own_keep hu fun g hg => k.2 g (own_far' hu hg).2 (h g hg)
end Go.Proofs.YtmebllhkfepkdaaDoor
namespace Go.Proofs.YtmebllhkfepkdaaDoor
open Go.RowKit Go.Shelf
set_option linter.unusedVariables false
set_option linter.unusedSimpArgs false
set_option maxRecDepth 100000
theorem Tabs.ct {w : World} (h : Tabs w) : CaT.Tabs w := h.1
theorem Tabs.ot {w : World} (h : Tabs w) : OTabs w := h.2
theorem issue_el (te tp : ByteArray) (tm tg tx : Int) (k : Nat) (hk : k < 8) (hv : Hid (validTB ⟨te, tp, tm, tg, tx⟩ = true)) (w : World) (hT : CaT.Tabs w) (hO : OTabs w) :
    Calls Tryd.prog 12 #[.string ⟨#[115, 101, 101, 100]⟩, .int .i64 3, .int .i64 (k : Int), .agg #[.string te, .string tp, .int .i64 tm, .int .i64 tg, .int .i64 tx]] w fun e w' => ∃ A ca B cb, e = .returned (.tuple #[.agg #[.string te, .string tp, .int .i64 tm, .int .i64 tg, .int .i64 tx, .int .i64 (k : Int), .slice A 18 ca, .slice B 3 cb], .int .i64 0]) ∧ IssEl w' ⟨te, tp, tm, tg, tx⟩ k ⟨⟨te, tp, tm, tg, tx⟩, (k : Int), A, 18, ca, B, 3, cb⟩ ∧ Below w.heap.size w w' := by
  have hsz := valid_sz hv.out
  have h := issue_own seedB 3 k 8 (by decide) (Lib.hid rfl) hk (by decide) te tp tm tg tx hv _ (Lib.hid rfl) _ (Lib.hid rfl) _ (Lib.hid rfl) w hsz.1 hsz.2 hT hO
  have hl : (pathL (leavesB seedB 8) (k : Int)).length = 3 := paT_len hk
  rw [hl] at h
  refine h.mono ?_
  rintro e w' ⟨A, ca, B, cb, rfl, ha, hb, hB⟩
  exact ⟨A, ca, B, cb, rfl, ⟨rfl, rfl, rfl, rfl, hk, hv.out, own_mono ha (Nat.zero_le _), own_mono hb (Nat.zero_le _)⟩, hB⟩
/-- Two elements, one after the other. -/
theorem acc_two (x y : ElM) (r : Int) (hx : validTB x.t = true) (hy : validTB y.t = true) (hr : wrongL [(x.t, x.j)] y.t y.j 0 = r) : ∃ T, accE (fun _ => true) [] [x, y] [] = (r, T) := by
  have h0 : okE (fun _ => true) [] x = 0 := by unfold okE wrongE; rw [if_pos hx, if_pos rfl]; rfl
  have h1 : okE (fun _ => true) [x] y = r := by unfold okE wrongE; rw [if_pos hy, if_pos rfl]; exact hr
  unfold accE
  rw [if_pos h0]
  rw [List.nil_append]
  unfold accE
  rw [h1]
  by_cases h : r = 0
  · rw [if_pos h, h]; unfold accE; exact ⟨_, rfl⟩
  · rw [if_neg h]; exact ⟨_, rfl⟩
theorem wl_key (x y : TotD) (k : Int) : wrongL [(x, k)] y k 0 = if x = y then 0 else 251 := by
  unfold wrongL
  dsimp only
  split
  · unfold wrongL; rfl
  · rw [if_pos rfl]
theorem wl_twice (x y : TotD) (k n : Int) (hne : ¬ k = n) (h : x.e = y.e ∧ x.p = y.p ∧ x.m = y.m) : wrongL [(x, k)] y n 0 = if x = y then 0 else 5 := by
  unfold wrongL
  dsimp only
  split
  · unfold wrongL; rfl
  · unfold wrongL
    rfl
end Go.Proofs.YtmebllhkfepkdaaDoor
namespace Go.Proofs.YtmebllhkfepkdaaDoor
open Go.RowKit Go.Shelf
set_option linter.unusedVariables false
set_option linter.unusedSimpArgs false
def Compat (x y : ElM) : Prop := x.t = y.t ∨ (¬ x.j = y.j ∧ ApartT x.t y.t)
theorem wl_zero : ∀ (l : List (TotD × Int)) (t : TotD) (i : Int), (∀ u ∈ l, u.1 = t ∨ (¬ u.2 = i ∧ ApartT u.1 t)) → wrongL l t i 0 = 0
  | [], _, _, _ => rfl
  | u :: l, t, i, h => by
    have hl := wl_zero l t i fun v hv => h v (.tail _ hv)
    unfold wrongL
    by_cases hne : u.1 = t
    · rw [if_pos hne]; exact hl
    · rcases h u (.head _) with k | ⟨k1, k2⟩
      · exact absurd k hne
      · unfold ApartT at k2
        rw [if_neg hne, if_neg k1, if_neg k2]; exact hl
theorem ok_zero {pre : List ElM} {x : ElM} (hv : validTB x.t = true) (h : ∀ u ∈ pre, Compat u x) : okE (fun _ => true) pre x = 0 := by
  unfold okE wrongE
  rw [if_pos hv, if_pos rfl]
  refine wl_zero _ _ _ fun u hu => ?_
  obtain ⟨z, hz, rfl⟩ := List.mem_map.1 hu
  exact h z hz
def addT (acc : List TotD) (x : ElM) : List TotD := if x.t ∈ acc then acc else acc ++ [x.t]
theorem acc_all : ∀ (l pre : List ElM) (acc : List TotD), (∀ x ∈ l, validTB x.t = true) → (∀ x ∈ pre ++ l, ∀ y ∈ pre ++ l, Compat x y) → accE (fun _ => true) pre l acc = (0, l.foldl addT acc)
  | [], pre, acc, _, _ => by unfold accE; rfl
  | x :: l, pre, acc, hv, hc => by
    unfold accE
    rw [if_pos (ok_zero (hv x (.head _)) fun u hu => hc u (List.mem_append_left _ hu) x (by simp))]
    have := acc_all l (pre ++ [x]) (if x.t ∈ acc then acc else acc ++ [x.t]) (fun y hy => hv y (.tail _ hy)) (fun u hu y hy => hc u (by simpa using hu) y (by simpa using hy))
    rw [this]
    rfl
theorem add_new : ∀ (l : List ElM) (acc : List TotD), (l.map (·.t)).Nodup → (∀ x ∈ l, x.t ∉ acc) → l.foldl addT acc = acc ++ l.map (·.t)
  | [], acc, _, _ => by simp
  | x :: l, acc, hn, hd => by
    rw [List.foldl_cons]
    have h0 : addT acc x = acc ++ [x.t] := by unfold addT; rw [if_neg (hd x (.head _))]
    rw [List.map_cons, List.nodup_cons] at hn
    rw [h0, add_new l _ hn.2 fun y hy h => by
      rcases List.mem_append.1 h with h | h
      · exact hd y (.tail _ hy) h
      · exact hn.1 (List.mem_map.2 ⟨y, hy, List.mem_singleton.1 h⟩)]
    simp
theorem add_old : ∀ (l : List ElM) (acc : List TotD), (∀ x ∈ l, x.t ∈ acc) → l.foldl addT acc = acc
  | [], acc, _ => rfl
  | x :: l, acc, h => by
    rw [List.foldl_cons]
    have h0 : addT acc x = acc := by unfold addT; rw [if_pos (h x (.head _))]
    rw [h0]
    exact add_old l acc fun y hy => h y (.tail _ hy)
theorem apart_nodup {ts : List TotD} (h : ts.Pairwise ApartT) : ts.Nodup := List.Pairwise.imp (fun {u v} (k : ApartT u v) (e : u = v) => k ⟨by rw [e], by rw [e], by rw [e]⟩) h
theorem ApartT.symm {u v : TotD} (h : ApartT u v) : ApartT v u := fun k => h ⟨k.1.symm, k.2.1.symm, k.2.2.symm⟩
/-- The facts on issued elements that the law needs. -/
structure IssF (W : World) (ts : List TotD) (es : List ElM) (m : Nat) : Prop where
  len : es.length = m
  tl : ts.length = m
  mp : es.map (·.t) = ts
  ok : ∀ x ∈ es, ElOk W root29 3 (fun _ => true) x
  va : ∀ x ∈ es, validTB x.t = true
  co : ∀ x ∈ es, ∀ y ∈ es, Compat x y
  nd : ts.Nodup
theorem IssF.go {W W' : World} {ts : List TotD} {es : List ElM} {m : Nat} (h : IssF W ts es m) (k : Below W.heap.size W W') : IssF W' ts es m := ⟨h.len, h.tl, h.mp, fun x hx => (h.ok x hx).go k, h.va, h.co, h.nd⟩
theorem iss_f {W : World} {ts : List TotD} {es : List ElM} {m : Nat} (h : IssL W ts es) (hm : ts.length = m) (h8 : m ≤ 8) (hp : ts.Pairwise ApartT) : IssF W ts es m := by
  obtain ⟨h1, h2⟩ := h
  have hl : es.length = m := by rw [h1, hm]; omega
  have each : ∀ i (hi : i < es.length), ∃ t, ts[i]? = some t ∧ IssEl W t i es[i] := by
    intro i hi
    have ht : i < ts.length := by omega
    exact ⟨ts[i], List.getElem?_eq_getElem ht, h2 i _ _ (List.getElem?_eq_getElem ht) (List.getElem?_eq_getElem hi)⟩
  refine ⟨hl, hm, ?_, fun x hx => ?_, fun x hx => ?_, fun x hx y hy => ?_, apart_nodup hp⟩
  · refine List.ext_getElem (by rw [List.length_map]; omega) fun i hi hi2 => ?_
    rw [List.length_map] at hi
    obtain ⟨t, ht, hx⟩ := each i hi
    rw [List.getElem_map, hx.t_]
    rw [List.getElem?_eq_getElem hi2] at ht
    exact (Option.some.inj ht).symm
  · obtain ⟨i, hi, rfl⟩ := List.getElem_of_mem hx
    obtain ⟨t, _, hx⟩ := each i hi
    exact hx.ok
  · obtain ⟨i, hi, rfl⟩ := List.getElem_of_mem hx
    obtain ⟨t, _, hx⟩ := each i hi
    rw [hx.t_]
    exact hx.va
  · obtain ⟨i, hi, rfl⟩ := List.getElem_of_mem hx
    obtain ⟨j, hj, rfl⟩ := List.getElem_of_mem hy
    obtain ⟨t, ht, hx⟩ := each i hi
    obtain ⟨u, hu, hy⟩ := each j hj
    by_cases hij : i = j
    · subst hij; exact .inl rfl
    · refine .inr ⟨by rw [hx.j_, hy.j_]; omega, ?_⟩
      rw [hx.t_, hy.t_]
      obtain ⟨hti, rfl⟩ := List.getElem?_eq_some_iff.1 ht
      obtain ⟨huj, rfl⟩ := List.getElem?_eq_some_iff.1 hu
      rcases Nat.lt_or_gt_of_ne hij with h | h
      · exact List.pairwise_iff_getElem.1 hp i j hti huj h
      · exact (List.pairwise_iff_getElem.1 hp j i huj hti h).symm
theorem IssF.acc1 {W : World} {ts : List TotD} {es : List ElM} {m : Nat} (h : IssF W ts es m) : accE (fun _ => true) [] es [] = (0, ts) := by
  rw [acc_all es [] [] h.va h.co, add_new es [] (by rw [h.mp]; exact h.nd) (fun x _ k => by cases k), List.nil_append, h.mp]
theorem IssF.acc2 {W : World} {ts : List TotD} {es : List ElM} {m : Nat} (h : IssF W ts es m) : accE (fun _ => true) [] (es ++ es) [] = (0, ts) := by
  have hm : ∀ x, x ∈ es ++ es → x ∈ es := fun x hx => by rcases List.mem_append.1 hx with h | h <;> exact h
  rw [acc_all (es ++ es) [] [] (fun x hx => h.va x (hm x hx)) (fun x hx y hy => h.co x (hm x hx) y (hm y hy)), List.foldl_append, add_new es [] (by rw [h.mp]; exact h.nd) (fun x _ k => by cases k), List.nil_append, h.mp]
  rw [add_old es ts fun x hx => by rw [← h.mp]; exact List.mem_map.2 ⟨x, hx, rfl⟩]
theorem rotE_mem (a : List ElM) (k : Nat) (u : ElM) : u ∈ a ↔ u ∈ a.drop k ++ a.take k := by
  conv => lhs; rw [← List.take_append_drop k a]
  rw [List.mem_append, List.mem_append, or_comm]
theorem IssF.acc3 {W : World} {ts : List TotD} {es : List ElM} {m : Nat} (h : IssF W ts es m) (k : Nat) : accE (fun _ => true) [] (es.drop k ++ es.take k) [] = (0, ts.drop k ++ ts.take k) := by
  have hm : ∀ x, x ∈ es.drop k ++ es.take k → x ∈ es := fun x hx => (rotE_mem es k x).2 hx
  have hmp : (es.drop k ++ es.take k).map (·.t) = ts.drop k ++ ts.take k := by rw [List.map_append, List.map_drop, List.map_take, h.mp]
  have hn : (ts.drop k ++ ts.take k).Nodup := by
    have := h.nd
    rw [← List.take_append_drop k ts] at this
    exact (List.perm_append_comm.nodup_iff).1 this
  rw [acc_all _ [] [] (fun x hx => h.va x (hm x hx)) (fun x hx y hy => h.co x (hm x hx) y (hm y hy)), add_new _ [] (by rw [hmp]; exact hn) (fun x _ k => by cases k), List.nil_append, hmp]
theorem IssF.okr {W : World} {ts : List TotD} {es : List ElM} {m : Nat} (h : IssF W ts es m) (k : Nat) : ∀ x ∈ es.drop k ++ es.take k, ElOk W root29 3 (fun _ => true) x := fun x hx => h.ok x ((rotE_mem es k x).2 hx)
theorem IssF.ok2 {W : World} {ts : List TotD} {es : List ElM} {m : Nat} (h : IssF W ts es m) : ∀ x ∈ es ++ es, ElOk W root29 3 (fun _ => true) x := fun x hx => by rcases List.mem_append.1 hx with k | k <;> exact h.ok x k
theorem els_one (l : List ElM) : ∀ u ∈ l.flatMap elV, u.oneCell' = true := by
  intro u hu
  obtain ⟨t, _, h⟩ := List.mem_flatMap.1 hu
  simp only [elV, List.mem_cons, List.not_mem_nil, or_false] at h
  rcases h with h | h | h | h | h | h | h | h <;> · subst h; rfl
theorem tots_one' (l : List TotD) : ∀ u ∈ l.flatMap totL5, u.oneCell' = true := by
  intro u hu
  obtain ⟨t, _, h⟩ := List.mem_flatMap.1 hu
  simp only [totL5, List.mem_cons, List.not_mem_nil, or_false] at h
  rcases h with h | h | h | h | h <;> · subst h; rfl
theorem step_srcg {P : Program} {W w0 : World} {ops : Array Oper} {o : Oper} {a : Act} {K : Act → World → Prop} {Q : Exit → Act → World → Prop} {E : Prop} (hgd : Region.wanted o (yielded ops a.tmps) = true) (s x : Operand) (t : TypeId)
    (ho : o.op = .call { callee := .builtin .append, args := #[s, x], argTypes := #[t, t] }) (e : TypeId) (i : TypeInfo) (z : Value) (size bytes : Nat) (ht : P.underlying t = some (.slice e)) (hi : P.info? e = some i) (hz : i.zero = some z)
    (hsize : i.size = size) (hby : i.bytes = bytes) (hzs : z.cells.size = size) (hsz : 0 < size) (v : Value) (n : Nat) (xs : List Value) (hs : a.eval s = v) (hown : W.ownsRow w0.heap.size e size v n xs) (hB : Below w0.heap.size w0 W)
    (sv : Value) (m : Nat) (cs : List Value) (hx : a.eval x = sv) (hsrc : Src W size sv m cs) (h1 : ∀ u ∈ cs, u.oneCell' = true) (h63 : n + m ≤ maxLen) (hbytes : (n + m) * bytes ≤ 140737488355328)
    (h : ∀ v' w', w'.ownsRow w0.heap.size e size v' (n + m) (xs ++ cs) → Below w0.heap.size w0 w' → Kept W v w' → K (a.put o.dst v') w') :
    if Region.wanted o (yielded ops a.tmps) = true then Oper.wp P o a W K Q else E := by
  obtain ⟨v', w', hr, h2, h3, h4⟩ := run_app (ty := o.type) t e i z size bytes ht hi hz hsize hby hzs hsz v n xs hown hB sv m cs hsrc h1 h63 hbytes
  rw [if_pos hgd]
  unfold Oper.wp
  simp [execOp, ho, resolve, invoke, builtin, hs, hx, hr, Result.andThen]
  exact h v' w' h2 h3 h4
end Go.Proofs.YtmebllhkfepkdaaDoor
