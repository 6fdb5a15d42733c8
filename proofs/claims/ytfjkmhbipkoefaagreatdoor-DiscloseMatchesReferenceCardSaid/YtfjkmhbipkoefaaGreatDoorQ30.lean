/- Rows of bytes that were made out of a text: appends of cells and of texts. The walk of the reference package of digest: Text. The reference's Text (layer 36). The walk of the law package's head (layer 25): the fixed examples hold. The walks of the reference of onetime: Digits, Step, Steps, Secret; and after, leaf of the law package. -/
import Derived.Test.YtfjkmhbipkoefaaGreatDoorQ01
import Derived.Laws.IdiomStrings
import Derived.Lib.AppendStr
import Derived.Lib.FrozenHead
import Derived.Test.YtfjkmhbipkoefaaGreatDoorQ28
import Derived.Test.YtfjkmhbipkoefaaGreatDoorQ09
import Derived.Test.YtfjkmhbipkoefaaGreatDoorQ02
import Derived.Test.YtfjkmhbipkoefaaGreatDoorQ29
import Derived.Test.YtfjkmhbipkoefaaGreatDoorQ13
import Derived.Test.YtfjkmhbipkoefaaGreatDoorQ05
namespace Go.Proofs.YtfjkmhbipkoefaaGreatDoor
open Go.RowKit
set_option linter.unusedVariables false
set_option linter.unusedSimpArgs false
/-- A slice of one-cell elements that owns its cells; no cell of its block is frozen, whatever the block's mark. -/
def ownsG (w : World) (base : Nat) (e : TypeId) (v : Value) (n : Nat) (xs : List Value) : Prop :=
  xs.length = n ∧ ∃ g cap cur fz, v = .slice (some ⟨g, 0, none⟩) n cap ∧ base ≤ g ∧ w.heap[g]? = some (.cells cur e fz) ∧ (fz.2 = 0 ∨ cur.size ≤ fz.1) ∧ n ≤ cap ∧ cap ≤ maxLen ∧ cur.size = cap ∧ cur.toList.take n = xs
theorem storeCells_G (P : Program) (g o : Nat) (t : TypeId) (fz : Nat × Nat) : ∀ (vs : List Value) (i : Nat) (cur : Array Value) (w : World), w.heap[g]? = some (.cells cur t fz) → (fz.2 = 0 ∨ cur.size ≤ fz.1) → o + i + vs.length ≤ cur.size → (∀ v ∈ vs, v.oneCell' = true) →
    (storeCells ⟨g, o, none⟩ vs i).run P w = .ok () (w.setRow g (cur.toList.take (o + i) ++ vs ++ cur.toList.drop (o + i + vs.length)).toArray)
  | [], i, cur, w, hg, _, _, _ => by
    simp only [storeCells, List.append_nil, List.length_nil, Nat.add_zero, List.take_append_drop, Array.toArray_toList]
    rw [setRow_self w g cur t fz hg]
    rfl
  | v :: rest, i, cur, w, hg, hfz, hl, h1 => by
    have hi : o + i < cur.size := by simp at hl; omega
    have hadd : (⟨g, o, none⟩ : Addr).add i = ⟨g, o + i, none⟩ := by unfold Addr.add; split <;> simp_all
    have hcell : w.cell? ⟨g, o + i, none⟩ = some cur[o + i] := by simp [World.cell?, hg, hi]
    have hfro : w.frozen? ⟨g, o + i, none⟩ = false := by
      obtain ⟨lo, hi'⟩ := fz
      simp only [World.frozen?, hg, Bool.and_eq_false_iff, decide_eq_false_iff_not]
      simp only at hfz
      omega
    have hst : (store ((⟨g, o, none⟩ : Addr).add i) v).run P w = .ok () (w.setRow g (cur.setIfInBounds (o + i) v)) := by
      rw [hadd, run_store P w _ v _ (h1 v (by simp)), hcell]
      simp [hfro, setCell_eq_setRow w g (o + i) cur t fz v hg]
    have ih := storeCells_G P g o t fz rest (i + 1) (cur.setIfInBounds (o + i) v) (w.setRow g (cur.setIfInBounds (o + i) v)) (setRow_heap w g cur _ t _ hg) (by rw [Array.size_setIfInBounds]; exact hfz) (by simp at hl ⊢; omega) (fun x hx => h1 x (by simp [hx]))
    simp only [storeCells, Sem.run_bind, hst, Result.andThen_ok, ih, setRow_setRow]
    congr 3
    have e := list_seg_step cur.toList (o + i) v rest (by simp at hl ⊢; omega)
    simpa [Array.toList_setIfInBounds, Nat.add_assoc] using e
theorem ownsG.cells {w : World} {base : Nat} {e : TypeId} {v : Value} {n : Nat} {xs : List Value} (h : ownsG w base e v n xs) {g : Nat} (hg : v.ownBlock = some g) : ∀ j u, xs[j]? = some u → w.cell? ((⟨g, 0, none⟩ : Addr).add j) = some u := by
  intro j u hu
  obtain ⟨_, g', cap, cur, fz, rfl, _, hgg, _, _, _, _, htake⟩ := h
  simp [Value.ownBlock] at hg
  subst hg
  have hadd : (⟨g', 0, none⟩ : Addr).add j = ⟨g', j, none⟩ := by unfold Addr.add; split <;> simp_all
  rw [hadd, cell_of_row w g' j cur e fz hgg]
  rw [← htake, List.getElem?_take] at hu
  split at hu
  · simpa using hu
  · cases hu
theorem ownsG.below {w w' : World} {base : Nat} {e : TypeId} {v : Value} {n : Nat} {xs : List Value} (h : ownsG w base e v n xs) (k : Below w.heap.size w w') : ownsG w' base e v n xs := by
  obtain ⟨h0, g, cap, cur, fz, h1, h2, h3, rest⟩ := h
  exact ⟨h0, g, cap, cur, fz, h1, h2, (k.block _ (Array.getElem?_eq_some_iff.1 h3).1).trans h3, rest⟩
theorem ownsG.lt {w : World} {base : Nat} {e : TypeId} {v : Value} {n : Nat} {xs : List Value} (h : ownsG w base e v n xs) : ∀ k, v.ownBlock = some k → base ≤ k ∧ k < w.heap.size := by
  intro k hk
  obtain ⟨_, g, cap, cur, fz, rfl, hb, hg, _⟩ := h
  simp [Value.ownBlock] at hk
  subst hk
  exact ⟨hb, (Array.getElem?_eq_some_iff.1 hg).1⟩
/-- A text as bytes. -/
theorem ownsG_of {P : Program} (W : World) (src dst e : TypeId) (s : ByteArray) (hs : P.underlying src = some .string) (hd : P.underlying dst = some (.slice e)) (he : P.underlying e = some (.int .u8)) (hl : s.size ≤ maxLen) :
    ∃ v w', (convert src dst (.string s)).run P W = .ok v w' ∧ ownsG w' W.heap.size e v s.size (Lib.strCells s) ∧ Below W.heap.size W w' := by
  refine ⟨_, _, run_bytes_of_string W src dst e s hs hd he, ?_, (Below.refl _ _).drew.alloc (Nat.le_refl _) _⟩
  have hge := grownCap_ge W s.size 0 e
  have hcm := grownCap_le_maxLen W s.size 0 e hl
  refine ⟨Lib.strCells_length s, _, _, _, _, rfl, Nat.le_refl _, heap_alloc_new W.drew _, .inr (Nat.le_refl _), hge, hcm, ?_, ?_⟩
  · unfold bytesRow
    rw [Array.size_append, Array.size_map, Array.size_replicate]
    show s.size + _ = _
    omega
  · unfold bytesRow
    rw [Array.toList_append, List.take_append_of_le_length (by rw [Array.length_toList, Array.size_map]; exact Nat.le_refl _), List.take_of_length_le (by rw [Array.length_toList, Array.size_map]; exact Nat.le_refl _)]
    rw [Array.toList_map]
    first | rfl | (unfold Lib.strCells; simp)
section
variable {P : Program} (w : World)
theorem append_G (base : Nat) (t ty e : TypeId) (i : TypeInfo) (ht : P.underlying t = some (.slice e)) (hi : P.info? e = some i) (hz : i.zero = some (.int .u8 0)) (hsize : i.size = 1) (hby : i.bytes = 1)
    (v : Value) (n : Nat) (xs : List Value) (hown : ownsG w base e v n xs) (a : Addr) (m c : Nat) (news : List Value) (hl : news.length = m) (hnews : ∀ j u, news[j]? = some u → w.cell? (a.add j) = some u) (h1 : ∀ u ∈ news, u.oneCell' = true)
    (h63 : n + m ≤ maxLen) (hbytes : n + m ≤ 140737488355328) (hbase : base ≤ w.heap.size) :
    ∃ v' w', (Builtin.append_ #[t, t] ty #[v, .slice (some a) m c]).run P w = .ok v' w' ∧ ownsG w' base e v' (n + m) (xs ++ news) ∧ w.grownBy w' v.ownBlock := by
  have hsmall : n + m ≤ 9223372036854775807 := by simp only [maxLen] at h63; omega
  have hcell := @ownsG.cells _ _ _ _ _ _ hown
  obtain ⟨hxl, g, cap, cur, fz, rfl, hbg, hg, hfz, hnc, hcm, hcs, htake⟩ := hown
  have hlen : (xs ++ news).length = n + m := by rw [List.length_append, hxl, hl]
  by_cases hroom : n + m ≤ cap
  · have hf := run_firstCells_some (P := P) w i.size m a m c news (by rw [hsize, hl]; omega) hnews
    have hst := storeCells_G P g n e fz news 0 cur w hg hfz (by omega) h1
    simp only [Nat.add_zero] at hst
    have hr : (Builtin.append_ #[t, t] ty #[.slice (some ⟨g, 0, none⟩) n cap, .slice (some a) m c]).run P w = .ok (.slice (some ⟨g, 0, none⟩) (n + m) cap) (w.setRow g (cur.toList.take n ++ news ++ cur.toList.drop (n + news.length)).toArray) := by
      rw [hsize] at hf
      simp [Builtin.append_, run_underlying ht, sizeOf, typeInfo, hi, hsize, Builtin.lenOf, hroom, hf, Addr.add_lit, hst]
    have hsz : (cur.toList.take n ++ news ++ cur.toList.drop (n + news.length)).toArray.size = cur.size := by
      simp only [List.size_toArray, List.length_append, List.length_take, List.length_drop, Array.length_toList]
      omega
    refine ⟨_, _, hr, ⟨hlen, g, cap, _, fz, rfl, hbg, setRow_heap w g cur _ e _ hg, by rw [hsz]; exact hfz, hroom, hcm, by rw [hsz]; exact hcs, ?_⟩, ⟨rfl, rfl, rfl, by simp, fun k _ hk => setRow_other w g k _ (fun e => hk (by simp [Value.ownBlock, e]))⟩⟩
    rw [htake, ← hlen]
    exact List.take_left
  · have holds := hcell (g := g) rfl
    have hr := run_append_grow (P := P) w t ty e i (.int .u8 0) ht hi hz ⟨g, 0, none⟩ n cap xs (by rw [hsize]; omega) holds a m c news (by rw [hsize]; omega) hnews (by omega) (by omega) (by rw [hby]; exact growslice_fits (by omega) (by omega))
    have hge := grownCap_ge w (n + m) cap e
    have hcm2 : grownCap w (n + m) cap e ≤ maxLen := grownCap_le_maxLen w (n + m) cap e h63
    refine ⟨_, _, hr, ⟨hlen, w.heap.size, _, _, (0, 0), rfl, hbase, heap_alloc_new w.drew _, .inl rfl, hge, hcm2, ?_, ?_⟩, ⟨rfl, rfl, rfl, by simp, fun k hk _ => Go.heap_alloc_old w.drew _ hk⟩⟩
    · have hz1 : (Value.int IntKind.u8 0).cells.size = 1 := rfl
      simp only [Array.size_append, List.size_toArray, size_zeroCells, hz1, hxl, hl]
      omega
    · simp only [Array.toList_append, List.append_assoc]
      rw [← List.append_assoc, ← hlen]
      exact List.take_left
theorem append_strG (base : Nat) (t u ty e : TypeId) (i : TypeInfo) (ht : P.underlying t = some (.slice e)) (hu : P.underlying u = some .string) (hi : P.info? e = some i) (hz : i.zero = some (.int .u8 0)) (hsize : i.size = 1) (hby : i.bytes = 1)
    (v : Value) (n : Nat) (xs : List Value) (hown : ownsG w base e v n xs) (s : ByteArray) (h63 : n + s.size ≤ maxLen) (hbytes : n + s.size ≤ 140737488355328) (hbase : base ≤ w.heap.size) :
    ∃ v' w', (Builtin.append_ #[t, u] ty #[v, .string s]).run P w = .ok v' w' ∧ ownsG w' base e v' (n + s.size) (xs ++ Lib.strCells s) ∧ w.grownBy w' v.ownBlock := by
  have hsmall : n + s.size ≤ 9223372036854775807 := by simp only [maxLen] at h63; omega
  have hcell := @ownsG.cells _ _ _ _ _ _ hown
  obtain ⟨hxl, g, cap, cur, fz, rfl, hbg, hg, hfz, hnc, hcm, hcs, htake⟩ := hown
  have hlen : (xs ++ Lib.strCells s).length = n + s.size := by rw [List.length_append, hxl, Lib.strCells_length]
  by_cases hroom : n + s.size ≤ cap
  · have hf := Lib.run_firstCells_string (P := P) w 1 s
    have hst := storeCells_G P g n e fz (Lib.strCells s) 0 cur w hg hfz (by rw [Lib.strCells_length]; omega) (Lib.strCells_oneCell s)
    simp only [Nat.add_zero, Lib.strCells_length] at hst
    have hr : (Builtin.append_ #[t, u] ty #[.slice (some ⟨g, 0, none⟩) n cap, .string s]).run P w = .ok (.slice (some ⟨g, 0, none⟩) (n + s.size) cap) (w.setRow g (cur.toList.take n ++ Lib.strCells s ++ cur.toList.drop (n + s.size)).toArray) := by
      simp [Builtin.append_, run_underlying ht, run_underlying hu, sizeOf, typeInfo, hi, hsize, Builtin.lenOf, hroom, hf, Addr.add_lit, hst]
    have hsz : (cur.toList.take n ++ Lib.strCells s ++ cur.toList.drop (n + s.size)).toArray.size = cur.size := by
      simp only [List.size_toArray, List.length_append, List.length_take, List.length_drop, Array.length_toList, Lib.strCells_length]
      omega
    refine ⟨_, _, hr, ⟨hlen, g, cap, _, fz, rfl, hbg, setRow_heap w g cur _ e _ hg, by rw [hsz]; exact hfz, hroom, hcm, by rw [hsz]; exact hcs, ?_⟩, ⟨rfl, rfl, rfl, by simp, fun k _ hk => setRow_other w g k _ (fun e => hk (by simp [Value.ownBlock, e]))⟩⟩
    rw [htake, ← hlen]
    exact List.take_left
  · have holds := hcell (g := g) rfl
    have hr := Lib.run_append_grow_string (P := P) w t u ty e i (.int .u8 0) ht hu hi hz ⟨g, 0, none⟩ n cap xs (by rw [hsize]; omega) holds s (by omega) (by omega) (by rw [hby]; exact growslice_fits (by omega) (by omega))
    have hge := grownCap_ge w (n + s.size) cap e
    have hcm2 : grownCap w (n + s.size) cap e ≤ maxLen := grownCap_le_maxLen w (n + s.size) cap e h63
    refine ⟨_, _, hr, ⟨hlen, w.heap.size, _, _, (0, 0), rfl, hbase, heap_alloc_new w.drew _, .inl rfl, hge, hcm2, ?_, ?_⟩, ⟨rfl, rfl, rfl, by simp, fun k hk _ => Go.heap_alloc_old w.drew _ hk⟩⟩
    · have hz1 : (Value.int IntKind.u8 0).cells.size = 1 := rfl
      simp only [Array.size_append, List.size_toArray, size_zeroCells, hz1, hxl, Lib.strCells_length]
      omega
    · simp only [Array.toList_append, List.append_assoc]
      rw [← List.append_assoc, ← hlen]
      exact List.take_left
end
theorem wpList_append_G {P : Program} {w : World} {ops : Array Oper} {rest : List Oper} {o : Oper} {a : Act} {Q : Exit → Act → World → Prop} (hgd : o.guard = none) (sl x : Operand) (t : TypeId)
    (ho : o.op = .call { callee := .builtin .append, args := #[sl, x], argTypes := #[t, t] }) (base : Nat) (e : TypeId) (i : TypeInfo) (ht : P.underlying t = some (.slice e)) (hi : P.info? e = some i) (hz : i.zero = some (.int .u8 0)) (hsize : i.size = 1) (hby : i.bytes = 1)
    (v : Value) (n : Nat) (xs : List Value) (hs : a.eval sl = v) (hown : ownsG w base e v n xs) (ad : Addr) (m c : Nat) (news : List Value) (hx : a.eval x = .slice (some ad) m c) (hl : news.length = m) (hnews : ∀ j u, news[j]? = some u → w.cell? (ad.add j) = some u) (h1 : ∀ u ∈ news, u.oneCell' = true)
    (h63 : n + m ≤ maxLen) (hbytes : n + m ≤ 140737488355328) (hbase : base ≤ w.heap.size)
    (h : ∀ v' w', ownsG w' base e v' (n + m) (xs ++ news) → w.grownBy w' v.ownBlock → wpList P ops Q rest (a.put o.dst v') w') : wpList P ops Q (o :: rest) a w := by
  refine wpList_plain hgd fun K hK => ?_
  obtain ⟨v', w', hr, h2, h3⟩ := append_G (P := P) w base t o.type e i ht hi hz hsize hby v n xs hown ad m c news hl hnews h1 h63 hbytes hbase
  unfold Oper.wp execOp
  simp only [ho, resolve, invoke, builtin, Sem.run_bind, Sem.run_pure, Result.andThen_ok, List.map_toArray, List.map_cons, List.map_nil, hs, hx, hr]
  exact hK _ _ (h v' w' h2 h3)
theorem wpList_append_strG {P : Program} {w : World} {ops : Array Oper} {rest : List Oper} {o : Oper} {a : Act} {Q : Exit → Act → World → Prop} (hgd : o.guard = none) (sl x : Operand) (t u : TypeId)
    (ho : o.op = .call { callee := .builtin .append, args := #[sl, x], argTypes := #[t, u] }) (base : Nat) (e : TypeId) (i : TypeInfo) (ht : P.underlying t = some (.slice e)) (hu : P.underlying u = some .string) (hi : P.info? e = some i) (hz : i.zero = some (.int .u8 0)) (hsize : i.size = 1) (hby : i.bytes = 1)
    (v : Value) (n : Nat) (xs : List Value) (hs : a.eval sl = v) (hown : ownsG w base e v n xs) (s : ByteArray) (hx : a.eval x = .string s)
    (h63 : n + s.size ≤ maxLen) (hbytes : n + s.size ≤ 140737488355328) (hbase : base ≤ w.heap.size)
    (h : ∀ v' w', ownsG w' base e v' (n + s.size) (xs ++ Lib.strCells s) → w.grownBy w' v.ownBlock → wpList P ops Q rest (a.put o.dst v') w') : wpList P ops Q (o :: rest) a w := by
  refine wpList_plain hgd fun K hK => ?_
  obtain ⟨v', w', hr, h2, h3⟩ := append_strG (P := P) w base t u o.type e i ht hu hi hz hsize hby v n xs hown s h63 hbytes hbase
  unfold Oper.wp execOp
  simp only [ho, resolve, invoke, builtin, Sem.run_bind, Sem.run_pure, Result.andThen_ok, List.map_toArray, List.map_cons, List.map_nil, hs, hx, hr]
  exact hK _ _ (h v' w' h2 h3)
end Go.Proofs.YtfjkmhbipkoefaaGreatDoor
namespace Go.Proofs.YtfjkmhbipkoefaaGreatDoor
open Go.RowKit
def hexS : ByteArray := ⟨#[48, 49, 50, 51, 52, 53, 54, 55, 56, 57, 97, 98, 99, 100, 101, 102]⟩
theorem hexS_at (m : Nat) (h : m < 16) : (⟨#[48, 49, 50, 51, 52, 53, 54, 55, 56, 57, 97, 98, 99, 100, 101, 102]⟩ : ByteArray).extract m (m + 1) = ⟨[Dig.hexd m].toArray⟩ := by
  rcases lt16 m h with rfl | rfl | rfl | rfl | rfl | rfl | rfl | rfl | rfl | rfl | rfl | rfl | rfl | rfl | rfl | rfl <;> decide +kernel
set_option maxHeartbeats 1000000 in
theorem rtext_any (d : UInt64) (w : World) : Calls Tryz.prog 39 #[.int .u64 d.toNat] w fun e w' => e = .returned (.string ⟨(Dig.text d).toArray⟩) ∧ w = w' := by
  go_enter Tryz.func39, Tryz.ntmps39
  go_wp2
  go_loop [0, 3, 4] (fun x s i => ∃ k x0 : Nat, k ≤ 16 ∧ i = .int .i64 k ∧ x = .int .u64 x0 ∧ x0 = d.toNat / 16 ^ k ∧ s = .string ⟨(Dig.ttail d k).toArray⟩) (fun _ _ i => 16 - (intOf i).toNat)
  case atStart => exact ⟨0, _, by omega, rfl, rfl, by simp, rfl⟩
  case round =>
    obtain ⟨k, x0, hk, rfl, rfl, hx, rfl⟩ := hrel
    have hx0 : x0 < 18446744073709551616 := by rw [hx]; exact Nat.lt_of_le_of_lt (Nat.div_le_self _ _) d.toNat_lt
    have Hx := Lib.hid hx
    clear hx
    by_cases hlt : k < 16
    · have hl := Dig.ttail_len d k
      obtain ⟨m, hm⟩ : ∃ m : Nat, m = x0 % 16 := ⟨_, rfl⟩
      have hm16 : m < 16 := by omega
      have hc : (x0 : Int) % 16 = (m : Int) := by omega
      have Hm := Lib.hid hm
      clear hm
      have hxs := hexS_at m hm16
      go_wp2
      go_round
      case rel => exact ⟨k + 1, x0 / 16, by omega, by go_num, by go_num, by rw [Hx.out, Nat.div_div_eq_div_mul, Nat.pow_succ], by rw [cons_bytes, Hm.out, Hx.out]; rfl⟩
      case measure => simp [intOf]; omega
    · obtain rfl : k = 16 := by omega
      rw [Dig.ttail_16]
      go_wp2
      go_ret
      exact ⟨rfl, rfl⟩
end Go.Proofs.YtfjkmhbipkoefaaGreatDoor
namespace Go.Proofs.YtfjkmhbipkoefaaGreatDoor
open Go.RowKit Go.Shelf
set_option linter.unusedVariables false
set_option linter.unusedSimpArgs false
set_option maxRecDepth 100000
/-- What has been written: the head, and k numbers, each behind a blank. -/
def dtl (xs : List Int) (k : Nat) : List UInt8 := Lib.joinTail [32] ((xs.take k).map Lib.itoa)
def dhd (person : ByteArray) (month : Int) (root : UInt64) : ByteArray := ⟨#[112, 97, 121, 115, 108, 105, 112, 32]⟩ ++ person ++ ⟨#[32]⟩ ++ itoaB month ++ ⟨#[32]⟩ ++ textB root
theorem dtl_succ (xs : List Int) (k : Nat) (h : k < xs.length) : dtl xs (k + 1) = dtl xs k ++ (32 :: Lib.itoa (xs.getD k 0)) := by
  have e : xs.getD k 0 = xs[k] := by simp [List.getD, h]
  unfold dtl Lib.joinTail
  rw [List.take_succ_eq_append_getElem h, e]
  simp only [List.map_append, List.map_cons, List.map_nil, List.flatten_append, List.flatten_cons, List.flatten_nil, List.append_nil, List.cons_append, List.nil_append]
theorem joinTail_app (a b : List (List UInt8)) : Lib.joinTail [32] (a ++ b) = Lib.joinTail [32] a ++ Lib.joinTail [32] b := by simp [Lib.joinTail]
theorem dText_eq (person : ByteArray) (month : Int) (root : UInt64) (xs : List Int) : (dText person month root xs).data.toList = (dhd person month root).data.toList ++ dtl xs xs.length := by
  unfold dText joinS dList dHead
  rw [List.map_append]
  simp only [List.map_cons, List.map_nil, List.cons_append, List.nil_append]
  rw [Lib.join_cons]
  rw [show (person.data.toList :: (itoaB month).data.toList :: (textB root).data.toList :: List.map (fun x => x.data.toList) (List.map itoaB xs)) = [person.data.toList, (itoaB month).data.toList, (textB root).data.toList] ++ List.map (fun x => x.data.toList) (List.map itoaB xs) from rfl]
  rw [joinTail_app]
  have e : (List.map (fun x => x.data.toList) (List.map itoaB xs)) = xs.map Lib.itoa := by
    rw [List.map_map]
    refine List.map_congr_left fun x _ => ?_
    simp [itoaB]
  rw [e]
  unfold dtl
  rw [List.take_length]
  unfold dhd payW
  simp [Lib.joinTail, ByteArray.data_append]
theorem cells_app (a : List UInt8) (b : List UInt8) : u8V (a ++ b) = u8V a ++ u8V b := by simp [u8V]
theorem strCells_eq (s : ByteArray) : Lib.strCells s = u8V s.data.toList := rfl
theorem u8_ones (l : List UInt8) : ∀ u ∈ u8V l, u.oneCell' = true := by
  intro u hu
  obtain ⟨x, _, rfl⟩ := List.mem_map.1 hu
  rfl
theorem dtl_len (xs : List Int) (hx : ∀ x ∈ xs, I64 x) : ∀ k, k ≤ xs.length → (dtl xs k).length ≤ 22 * k := by
  intro k
  induction k with
  | zero => intro _; simp [dtl, Lib.joinTail]
  | succ k ih =>
    intro hk
    rw [dtl_succ xs k (by omega), List.length_append, List.length_cons]
    have h1 := ih (by omega)
    have hm : xs.getD k 0 ∈ xs := by rw [List.getD_eq_getElem?_getD, List.getElem?_eq_getElem (show k < xs.length by omega)]; exact List.getElem_mem _
    have h2 := itoaB_size (xs.getD k 0) (hx _ hm).1 (hx _ hm).2
    have h3 : (itoaB (xs.getD k 0)).size = (Lib.itoa (xs.getD k 0)).length := by
      unfold itoaB
      show (Lib.itoa (xs.getD k 0)).toArray.size = _
      simp
    omega
/-- The bytes in the slice make the text. -/
theorem ownsG_back {W : World} {base n : Nat} {v : Value} {l : List UInt8} (h : ownsG W base 5 v n (u8V l)) : (convert 73 9 v).run Tryz.prog W = .ok (.string ⟨l.toArray⟩) W := by
  have hc := @ownsG.cells _ _ _ _ _ _ h
  obtain ⟨hl, g, cap, cur, fz, rfl, _⟩ := h
  have hn : l.length = n := by rw [← hl]; simp [u8V]
  subst hn
  refine run_convert_bytes_back (P := Tryz.prog) W 73 9 5 ⟨g, 0, none⟩ cap l Tryz.underlying73 Tryz.underlying5 Tryz.underlying9 ?_
  intro j hj
  exact hc (g := g) rfl j _ (by simp [u8V, hj])
set_option maxHeartbeats 8000000 in
theorem rtext36_any (person : ByteArray) (month : Int) (root : UInt64) (A : Option Addr) (ca n : Nat) (xs : List Int) (t : ByteArray) (hxn : xs.length = n) (ht : Hid (dText person month root xs = t)) (hm : I64 month) (hx : ∀ x ∈ xs, I64 x) (hn : n ≤ 2000)
    (hp : person.size ≤ 10000000) (w : World) (hA : Sl w w.heap.size 1 A n (intV xs)) :
    Calls Tryz.prog 10 #[.string person, .int .i64 month, .int .u64 root.toNat, .slice A n ca] w fun e w' => e = .returned (.string t) ∧ Below w.heap.size w w' := by
  obtain ⟨i0, hi0, hz0, hz1, hz2⟩ := info_parts info_u8
  obtain ⟨mt, hme⟩ : ∃ m, itoaB month = m := ⟨_, rfl⟩
  have hms := itoaB_size month hm.1 hm.2
  rw [hme] at hms
  have Hme := Lib.hid hme
  obtain ⟨rt, hre⟩ : ∃ r, textB root = r := ⟨_, rfl⟩
  have hrs : rt.size = 16 := by rw [← hre]; rfl
  obtain ⟨hd, hhd⟩ : ∃ h, dhd person month root = h := ⟨_, rfl⟩
  have h8 : (⟨#[112, 97, 121, 115, 108, 105, 112, 32]⟩ : ByteArray).size = 8 := rfl
  have h1 : (⟨#[32]⟩ : ByteArray).size = 1 := rfl
  have hhe : ⟨#[112, 97, 121, 115, 108, 105, 112, 32]⟩ ++ person ++ ⟨#[32]⟩ ++ mt ++ ⟨#[32]⟩ ++ rt = hd := by rw [← hhd, ← hme, ← hre]; rfl
  have hds : hd.size ≤ 10000100 := by rw [← hhe]; simp only [ByteArray.size_append, h8, h1]; omega
  have Hre := Lib.hid hre
  have Hhe := Lib.hid hhe
  have Hhd := Lib.hid hhd
  have HA := Lib.hid hA
  have Hxn := Lib.hid hxn
  have Hx := Lib.hid hx
  have hp2 : person.size ≤ 10000000 := hp
  clear hme hre hhd hA hxn hx hhe
  have s1 : ¬ 9223372036854775807 < 8 + person.size := by omega
  go_enter Tryz.func10, Tryz.ntmps10
  go_wp2_with fail
  refine (rdig36_any month hm.1 hm.2 mt Hme w).mono ?_
  rintro e w1 ⟨rfl, hB1⟩
  go_wp2_with fail
  refine (rtext_any root w1).mono ?_
  rintro e wq ⟨rfl, hwq⟩
  obtain rfl := hwq
  have hrt : (⟨(Dig.text root).toArray⟩ : ByteArray) = rt := Hre.out
  rw [hrt]
  clear hrt
  obtain ⟨v0, w3, hcv, hG, hB3⟩ := ownsG_of (P := Tryz.prog) w1 9 73 5 hd Tryz.underlying9 Tryz.underlying73 Tryz.underlying5 (by unfold maxLen; omega)
  have hcv2 : (convert 9 73 (.string (⟨#[112, 97, 121, 115, 108, 105, 112, 32]⟩ ++ person ++ ⟨#[32]⟩ ++ mt ++ ⟨#[32]⟩ ++ rt))).run Tryz.prog w1 = .ok v0 w3 := by rw [Hhe.out]; exact hcv
  have HG := Lib.hid (And.intro hG (And.intro (bgo hB1 hB3) hB3.size))
  have hB13 := hB1.size
  clear hcv hG hB3
  go_wp2_with fail
  clear hcv2
  go_loopw [9, 10] (fun v i wr => ∃ k : Nat, k ≤ n ∧ i = .int .i64 (k : Int) ∧ ownsG wr w1.heap.size 5 v (hd.size + (dtl xs k).length) (u8V (hd.data.toList ++ dtl xs k)) ∧ Below w.heap.size w wr ∧ w1.heap.size ≤ wr.heap.size) (fun _ i _ => n - (intOf i).toNat)
  case atStart => exact ⟨0, Nat.zero_le _, rfl, by (have h := HG.out.1; rw [strCells_eq] at h; simpa [dtl, Lib.joinTail] using h), HG.out.2.1, HG.out.2.2⟩
  case round =>
    clear HG
    obtain ⟨k, hk, rfl, hG, hBr, hsz⟩ := hrel
    have HG := Lib.hid hG
    have HB := Lib.hid hBr
    have HS := Lib.hid hsz
    have hln := dtl_len xs Hx.out k (by rw [Hxn.out]; exact hk)
    obtain ⟨ln, hlne⟩ : ∃ l, (dtl xs k).length = l := ⟨_, rfl⟩
    rw [hlne] at hln hG
    have HG2 := Lib.hid hG
    have Hln := Lib.hid hlne
    clear hG hBr hsz hlne
    by_cases hlt : k < n
    · have hlt' : (k : Int) < (n : Int) := by omega
      have hkl : k < xs.length := by rw [Hxn.out]; exact hlt
      obtain ⟨b, off, rfl, hb, hcell⟩ := HA.out.2 (by omega)
      obtain ⟨x, hxx⟩ : ∃ x, xs.getD k 0 = x := ⟨_, rfl⟩
      have hmem : x ∈ xs := by rw [← hxx, List.getD_eq_getElem?_getD, List.getElem?_eq_getElem hkl]; exact List.getElem_mem hkl
      have hxI := Hx.out x hmem
      have hcc : ∀ W, Below w.heap.size w W → W.cell? ⟨b, off + k, none⟩ = some (.int .i64 x) := fun W hW => (hW.cell (p := ⟨b, off + k, none⟩) hb).trans (hcell k _ (by rw [intV_get xs k hkl, hxx]))
      have Hc := Lib.hid hcc
      obtain ⟨tx, htx⟩ : ∃ t, itoaB x = t := ⟨_, rfl⟩
      have htz := itoaB_size x hxI.1 hxI.2
      rw [htx] at htz
      have Htx := Lib.hid htx
      have Hnx : Hid (dtl xs (k + 1) = dtl xs k ++ (32 :: tx.data.toList)) := Lib.hid (by
        rw [dtl_succ xs k hkl, hxx, ← htx]
        simp [itoaB])
      clear hcell hmem hcc htx hkl hxx
      go_upto_region 6 with (at_builtin; refine wpList_append_G rfl _ _ 73 rfl w1.heap.size 5 i0 Tryz.underlying73 hi0 hz0 hz1 hz2 _ (hd.size + ln) _ rfl (HG2.out.below (bal (Below.refl _ _) _)) ⟨wr.heap.size, 0, none⟩ 1 1 [.int .u8 32] rfl rfl (fun j u hu => World.news_of_block (cs := #[.int .u8 32]) (World.alloc_heap_new wr _) j u hu) (by simp [Value.oneCell']) (by unfold maxLen; omega) (by omega) (by have := HS.out; simp; omega) ?_)
      intro v4 w4 hG4 hgr4
      have hB4 : Below w.heap.size w w4 := (bal HB.out _).grown hgr4 (by have := HB.out.size; simp; omega) (fun q hq => by have := (HG2.out.lt q hq).1; omega)
      have hS4 : w1.heap.size ≤ w4.heap.size := by have h1 := hgr4.size; have h2 := HS.out; simp at h1; omega
      have G4 := Lib.hid (And.intro hG4 (And.intro hB4 hS4))
      have hc4 := Hc.out w4 hB4
      clear hG4 hgr4 hB4 hS4 HG HG2
      go_wp2_with fail
      refine (rdig36_any x hxI.1 hxI.2 tx Htx w4).mono ?_
      rintro e w5 ⟨rfl, hB5⟩
      have G5 := Lib.hid (And.intro (G4.out.1.below hB5) (And.intro (bgo G4.out.2.1 hB5) (Nat.le_trans G4.out.2.2 hB5.size)))
      clear hB5 hc4 G4
      go_wp2_with (at_builtin; refine wpList_append_strG rfl _ _ 73 9 rfl w1.heap.size 5 i0 Tryz.underlying73 Tryz.underlying9 hi0 hz0 hz1 hz2 _ (hd.size + ln + 1) _ rfl G5.out.1 tx rfl (by unfold maxLen; omega) (by omega) G5.out.2.2 ?_)
      intro v6 w6 hG6 hgr6
      have hB6 : Below w.heap.size w w6 := G5.out.2.1.grown hgr6 G5.out.2.1.size (fun q hq => by have := (G5.out.1.lt q hq).1; omega)
      have hS6 : w1.heap.size ≤ w6.heap.size := Nat.le_trans G5.out.2.2 hgr6.size
      have hG7 : ownsG w6 w1.heap.size 5 v6 (hd.size + (dtl xs (k + 1)).length) (u8V (hd.data.toList ++ dtl xs (k + 1))) := by
        have e1 : hd.size + (dtl xs (k + 1)).length = hd.size + ln + 1 + tx.size := by
          rw [Hnx.out, List.length_append, Hln.out, List.length_cons]
          have : tx.data.toList.length = tx.size := Array.length_toList
          omega
        have e2 : u8V (hd.data.toList ++ dtl xs (k + 1)) = u8V (hd.data.toList ++ dtl xs k) ++ [.int .u8 32] ++ Lib.strCells tx := by
          rw [Hnx.out, strCells_eq, cells_app, cells_app, cells_app]
          simp [u8V]
        rw [e1, e2, List.append_assoc]
        exact hG6
      have G7 := Lib.hid (And.intro hG7 (And.intro hB6 hS6))
      clear hG6 hgr6 hB6 hS6 hG7 G5
      go_wp2_with fail
      go_roundw
      case rel => exact ⟨k + 1, by omega, by go_num, G7.out.1, G7.out.2.1, G7.out.2.2⟩
      case measure => simp [intOf]; omega
    · obtain rfl : n = k := by omega
      have hb := ownsG_back HG.out
      have he : (⟨(hd.data.toList ++ dtl xs n).toArray⟩ : ByteArray) = t := by
        rw [← ht.out]
        apply ByteArray.ext
        apply Array.toList_inj.1
        rw [dText_eq, Hhd.out, Hxn.out]
      rw [he] at hb
      clear he HG HG2
      go_wp2_with fail
      go_ret
      exact ⟨rfl, HB.out⟩
end Go.Proofs.YtfjkmhbipkoefaaGreatDoor
namespace Go.Proofs.YtfjkmhbipkoefaaGreatDoor
open Go.RowKit Go.Shelf
set_option linter.unusedVariables false
def seedB : ByteArray := ⟨#[115, 101, 101, 100]⟩
def tB : ByteArray := ⟨#[116, 101, 120, 116]⟩
theorem reu_dec (is : List Int) (ts : List ByteArray) (n i j : Nat) (h1 : j < n) (h2 : i < j) (h3 : is.getD i 0 = is.getD j 0) (h4 : ts.getD i ⟨#[]⟩ ≠ ts.getD j ⟨#[]⟩) (h5 : ∀ j', j' < j → ∀ i', i' < j' → is.getD i' 0 = is.getD j' 0 → ts.getD i' ⟨#[]⟩ = ts.getD j' ⟨#[]⟩) (h6 : ∀ i', i' < i → is.getD i' 0 = is.getD j 0 → ts.getD i' ⟨#[]⟩ = ts.getD j ⟨#[]⟩) : On.Reu is ts n (some (i, j)) :=
  ⟨h1, ⟨h2, h3, h4⟩, fun i' j' hj hp => hp.2.2 (h5 j' hj i' hp.1 hp.2.1), fun i' hi hp => hp.2.2 (h6 i' hi hp.2.1)⟩
theorem reu_dec0 (is : List Int) (ts : List ByteArray) (n : Nat) (h5 : ∀ j', j' < n → ∀ i', i' < j' → is.getD i' 0 = is.getD j' 0 → ts.getD i' ⟨#[]⟩ = ts.getD j' ⟨#[]⟩) : On.Reu is ts n none :=
  fun i' j' hj hp => hp.2.2 (h5 j' hj i' hp.1 hp.2.1)
def hS1 : List ByteArray := [⟨#[97]⟩, ⟨#[98]⟩, ⟨#[97]⟩, ⟨#[99]⟩]
def hS2 : List ByteArray := [⟨#[97]⟩, ⟨#[97]⟩]
def hG (i : Int) : Sg := ⟨i, none, 0, 0, none, 0, 0⟩
theorem hReu1 : On.Reu (idxs [hG 1, hG 2, hG 1, hG 1]) hS1 4 (some (0, 3)) := reu_dec _ _ _ _ _ (by decide) (by decide) (by decide) (by decide +kernel) (by decide +kernel) (by decide +kernel)
theorem hReu2 : On.Reu (idxs [hG 1, hG 1]) hS2 2 none := reu_dec0 _ _ _ (by decide +kernel)
theorem two_slices (w : World) (n : Nat) (ss : List ByteArray) (sg : Sigs) (cs1 cs2 : Array Value) (t1 t2 : TypeId) (hn : ss.length = n) (hn' : sg.length = n) (h1 : cs1.toList = strV ss) (h2 : cs2.toList = sigsV sg) :
    Sl ((w.alloc (.cells cs1 t1)).alloc (.cells cs2 t2)) ((w.alloc (.cells cs1 t1)).alloc (.cells cs2 t2)).heap.size 1 (some ⟨w.heap.size, 0, none⟩) n (strV ss) ∧
    Sl ((w.alloc (.cells cs1 t1)).alloc (.cells cs2 t2)) ((w.alloc (.cells cs1 t1)).alloc (.cells cs2 t2)).heap.size 3 (some ⟨w.heap.size + 1, 0, none⟩) n (sigsV sg) :=
  ⟨sl_cells (heap_alloc2_old w _ _) h1 (by rw [strV, List.length_map, hn]; omega), sl_cells (heap_alloc2_new w _ _) h2 (by rw [sigsV_len, hn'])⟩
theorem bgo1 {w W' : World} {a : Obj} (k : Below (w.alloc a).heap.size (w.alloc a) W') : Below w.heap.size w W' := bgo (bal (Below.refl _ _) _) k
theorem bgo2 {w W' : World} {a b : Obj} (k : Below ((w.alloc a).alloc b).heap.size ((w.alloc a).alloc b) W') : Below w.heap.size w W' := bgo1 (bgo1 k)
theorem head_path : ∃ x, keyP seedB 2 1 = [(x, true)] := by
  have h := keyP_map seedB 2 1 (by decide) (by decide)
  rw [show sidesL ((2 : Nat) : Int) ((1 : Nat) : Int) = [true] by decide +kernel] at h
  generalize keyP seedB 2 ((1 : Nat) : Int) = p at h
  match p, h with
  | [(x, y)], h => exact ⟨x, by simp at h; rw [h]⟩
end Go.Proofs.YtfjkmhbipkoefaaGreatDoor
namespace Go.Proofs.YtfjkmhbipkoefaaGreatDoor
open Go.RowKit Go.Shelf
set_option linter.unusedVariables false
set_option maxRecDepth 100000
theorem text_index (d : UInt64) (k : Nat) (hk : k < 16) (w : World) : (Instr.index 9 (.string (textB d)) (.int .i64 (k : Int))).run Tryz.prog w = .ok (.int .u8 ((Dig.hexd (On.digit d k)).toNat : Int)) w := by
  rcases lt16 k hk with rfl | rfl | rfl | rfl | rfl | rfl | rfl | rfl | rfl | rfl | rfl | rfl | rfl | rfl | rfl | rfl <;> kernel_rfl
theorem hexd_lo (m : Nat) (h : m < 10) : ((Dig.hexd m).toNat : Int) = 48 + (m : Int) := by
  unfold Dig.hexd; rw [if_pos h, UInt8.toNat_ofNat']; omega
theorem hexd_hi (m : Nat) (h : ¬ m < 10) (h' : m < 16) : ((Dig.hexd m).toNat : Int) = 87 + (m : Int) := by
  unfold Dig.hexd; rw [if_neg h, UInt8.toNat_ofNat']; omega
def digI (d : UInt64) (k : Nat) : List Value := (List.range k).map fun j => Value.int .i64 (On.digit d j : Int)
theorem digI_snoc (d : UInt64) (k : Nat) : digI d (k + 1) = digI d k ++ [.int .i64 (On.digit d k : Int)] := by simp [digI, List.range_succ]
def digR (d : UInt64) : List Value := (On.digs d).map fun (m : Nat) => Value.int .i64 (m : Int)
theorem digR_eq (d : UInt64) : digI d 16 ++ [.int .i64 ((On.csum d 16 / 16 : Nat) : Int), .int .i64 ((On.csum d 16 % 16 : Nat) : Int)] = digR d := rfl
theorem digR_get (d : UInt64) (k : Nat) (h : k < 18) : (digR d)[k]? = some (.int .i64 (On.dg d k : Int)) := by
  rcases On.lt18 h with rfl | rfl | rfl | rfl | rfl | rfl | rfl | rfl | rfl | rfl | rfl | rfl | rfl | rfl | rfl | rfl | rfl | rfl <;> rfl
theorem info_int25 : (Tryz.prog.info? 3).map (fun i => (i.zero, i.size, i.bytes)) = some (some (.int .i64 0), 1, 8) := by kernel_rfl
theorem rsum_at (s : ByteArray) (v : UInt64) (w : World) (hv : Hid (Dig.sum s.data.toList = v)) (hs : s.size ≤ maxLen) : Calls Tryz.prog 82 #[.string s] w fun e w' => e = .returned (.int .u64 v.toNat) ∧ w = w' := by
  rw [← hv.out]; exact rsum_any s w hs
theorem rtext_b (d : UInt64) (w : World) : Calls Tryz.prog 39 #[.int .u64 d.toNat] w fun e w' => e = .returned (.string (textB d)) ∧ w = w' := rtext_any d w
set_option maxHeartbeats 4000000 in
theorem rdigits_any (t : ByteArray) (d : UInt64) (hd : Hid (Dig.sum t.data.toList = d)) (w : World) (ht : t.size ≤ maxLen) :
    Calls Tryz.prog 63 #[.string t] w fun e w' => ∃ v, e = .returned v ∧ w'.ownsRow w.heap.size 3 1 v 18 (digR d) ∧ Below w.heap.size w w' := by
  obtain ⟨i0, hi0, hz0, hz1, hz2⟩ := info_parts info_int25
  go_enter Tryz.func63, Tryz.ntmps63
  go_wp2_with fail
  refine (rsum_at _ _ _ hd ht).mono ?_
  rintro e w' ⟨rfl, rfl⟩
  go_wp2_with fail
  refine (rtext_b d _).mono ?_
  rintro e w' ⟨rfl, rfl⟩
  go_wp2
  go_loopw [4, 5, 6] (fun v c i wr => ∃ k : Nat, k ≤ 16 ∧ i = .int .i64 k ∧ c = .int .i64 (On.csum d k : Int) ∧ wr.ownsRow w.heap.size 3 1 v k (digI d k) ∧ Below w.heap.size w wr) (fun _ _ i _ => 16 - (intOf i).toNat)
  case atStart => exact ⟨0, by omega, rfl, rfl, ⟨rfl, .inl ⟨rfl, rfl⟩⟩, Below.refl _ _⟩
  case round =>
    obtain ⟨k, hk, rfl, rfl, hown, hB⟩ := hrel
    have Hown := Lib.hid hown
    have hcs := On.csum_le d k
    clear hown
    by_cases hlt : k < 16
    · have hlt' : (k : Int) < 16 := by omega
      have hidx : ∀ W, (Instr.index 9 (.string (textB d)) (.int .i64 (k : Int))).run Tryz.prog W = .ok (.int .u8 ((Dig.hexd (On.digit d k)).toNat : Int)) W := fun W => text_index d k hlt W
      have hm16 := On.digit_lt d k
      have hcn : On.csum d (k + 1) = On.csum d k + (15 - On.digit d k) := rfl
      obtain ⟨m, hm⟩ : ∃ m, On.digit d k = m := ⟨_, rfl⟩
      obtain ⟨q, hq⟩ : ∃ q, On.csum d k = q := ⟨_, rfl⟩
      rw [hm] at hidx hm16 hcn
      rw [hq] at hcs hcn ⊢
      have Hm := Lib.hid (And.intro hm hcn)
      clear hm hq hcn
      by_cases h10 : m < 10
      · rw [hexd_lo m h10] at hidx
        have e1 : (48 : Int) + (m : Int) - 48 = (m : Int) := by omega
        have e2 : decide ((97 : Int) ≤ 48 + (m : Int)) = false := decide_eq_false (by omega)
        go_wp2_with (at_builtin; refine app_one rfl _ _ 23 rfl 3 i0 _ 1 8 Tryz.underlying23 hi0 hz0 hz1 hz2 rfl (by decide) _ _ _ rfl Hown.out hB [.int .i64 (m : Int)] _ _ rfl rfl ?c1 ?c2 ?c3 ?_)
        case c1 => simp [Value.oneCell']
        case c2 => simp [maxLen]; omega
        case c3 => omega
        intro v' w2 hown2 hB2 _
        have HR := Lib.hid hown2
        clear hown2 hidx
        go_wp2
        go_roundw
        case rel =>
          refine ⟨k + 1, by omega, by go_num, by rw [Hm.out.2]; go_num, ?_, hB2⟩
          rw [digI_snoc, Hm.out.1]
          exact HR.out
        case measure => simp [intOf]; omega
      · rw [hexd_hi m h10 hm16] at hidx
        have e1 : (87 : Int) + (m : Int) - 97 + 10 = (m : Int) := by omega
        have e2 : decide ((97 : Int) ≤ 87 + (m : Int)) = true := decide_eq_true (by omega)
        go_wp2_with (at_builtin; refine app_one rfl _ _ 23 rfl 3 i0 _ 1 8 Tryz.underlying23 hi0 hz0 hz1 hz2 rfl (by decide) _ _ _ rfl Hown.out hB [.int .i64 (m : Int)] _ _ rfl rfl ?c1 ?c2 ?c3 ?_)
        case c1 => simp [Value.oneCell']
        case c2 => simp [maxLen]; omega
        case c3 => omega
        intro v' w2 hown2 hB2 _
        have HR := Lib.hid hown2
        clear hown2 hidx
        go_wp2
        go_roundw
        case rel =>
          refine ⟨k + 1, by omega, by go_num, by rw [Hm.out.2]; go_num, ?_, hB2⟩
          rw [digI_snoc, Hm.out.1]
          exact HR.out
        case measure => simp [intOf]; omega
    · obtain rfl : k = 16 := by omega
      obtain ⟨q, hq⟩ : ∃ q, On.csum d 16 = q := ⟨_, rfl⟩
      rw [hq] at hcs ⊢
      have Hq := Lib.hid hq
      clear hq
      go_wp2_with (at_builtin; refine app_src (w0 := w) rfl _ _ 23 rfl 3 i0 _ 1 8 Tryz.underlying23 hi0 hz0 hz1 hz2 rfl (by decide) _ 16 (digI d 16) rfl (Hown.out.alloc _) (bal hB _) _ 2 [.int .i64 ((q : Int) / 16), .int .i64 ((q : Int) % 16)] rfl (block_src _ _ _ _ _ _ _ rfl) ?c1 ?c2 ?c3 ?_)
      case c1 => simp [Value.oneCell']
      case c2 => decide
      case c3 => decide
      intro v' w2 hown2 hB2 _
      have HR := Lib.hid hown2
      clear hown2
      go_wp2
      go_ret
      refine ⟨_, rfl, ?_, hB2⟩
      have := HR.out
      rw [show (q : Int) / 16 = ((On.csum d 16 / 16 : Nat) : Int) by rw [Hq.out]; omega, show (q : Int) % 16 = ((On.csum d 16 % 16 : Nat) : Int) by rw [Hq.out]; omega, digR_eq] at this
      exact this
set_option maxHeartbeats 1000000 in
theorem rstep_any (x : UInt64) (w : World) : Calls Tryz.prog 83 #[.int .u64 x.toNat] w fun e w' => e = .returned (.int .u64 (On.step x).toNat) ∧ w = w' := by
  have hstep : Hid (Dig.sum ((⟨#[2]⟩ : ByteArray) ++ textB x).data.toList = On.step x) := Lib.hid (step_eq x)
  have hsz := step_size x
  have hz : ¬ (9223372036854775807 < 1 + (textB x).size) := by rw [textB_size]; decide
  go_enter Tryz.func83, Tryz.ntmps83
  go_wp2_with fail
  refine (rtext_b x _).mono ?_
  rintro e w' ⟨rfl, rfl⟩
  go_wp2_with fail
  refine (rsum_at _ _ _ hstep hsz).mono ?_
  rintro e w' ⟨rfl, rfl⟩
  go_wp2_with fail
  go_ret
  exact ⟨rfl, rfl⟩
set_option maxHeartbeats 1000000 in
theorem rsteps_any (x : UInt64) (N : Nat) (y : UInt64) (hy : Hid (On.steps N x = y)) (hN : N < 9223372036854775807) (w : World) : Calls Tryz.prog 64 #[.int .u64 x.toNat, .int .i64 (N : Int)] w fun e w' => e = .returned (.int .u64 y.toNat) ∧ w = w' := by
  rw [← hy.out]
  clear hy
  go_enter Tryz.func64, Tryz.ntmps64
  go_wp2
  go_loopw [0, 5] (fun v i wr => ∃ k : Nat, k ≤ N ∧ i = .int .i64 k ∧ v = .int .u64 (On.steps k x).toNat ∧ w = wr) (fun _ i _ => N - (intOf i).toNat)
  case atStart => exact ⟨0, Nat.zero_le _, rfl, rfl, rfl⟩
  case round =>
    obtain ⟨k, hk, rfl, rfl, hw⟩ := hrel
    have Hw := Lib.hid hw
    clear hw
    obtain ⟨z, hz⟩ : ∃ z, On.steps k x = z := ⟨_, rfl⟩
    rw [hz]
    have Hz := Lib.hid hz
    clear hz
    by_cases hlt : k < N
    · have hlt' : (k : Int) < (N : Int) := by omega
      go_wp2_with fail
      refine (rstep_any z _).mono ?_
      rintro e w' ⟨rfl, rfl⟩
      go_wp2
      go_roundw
      case rel => exact ⟨k + 1, by omega, by go_num, by rw [← Hz.out]; rfl, Hw.out⟩
      case measure => simp [intOf]; omega
    · obtain rfl : k = N := by omega
      go_wp2
      go_ret
      exact ⟨by rw [← Hz.out]; rfl, Hw.out⟩
set_option maxHeartbeats 1000000 in
theorem rsecret_any (seed : ByteArray) (i k : Int) (x : UInt64) (hx : Hid (On.secret seed.data.toList i k = x)) (w : World) (hT : PTab w) (hs : seed.size ≤ 100) (hi : -9223372036854775808 ≤ i ∧ i ≤ 9223372036854775807) (hk : -9223372036854775808 ≤ k ∧ k ≤ 9223372036854775807) :
    Calls Tryz.prog 65 #[.string seed, .int .i64 i, .int .i64 k] w fun e w' => e = .returned (.int .u64 x.toNat) ∧ Below w.heap.size w w' := by
  rw [← hx.out]
  clear hx
  obtain ⟨t1, ht1⟩ : ∃ t, itoaB i = t := ⟨_, rfl⟩
  obtain ⟨t2, ht2⟩ : ∃ t, itoaB k = t := ⟨_, rfl⟩
  have s1 := itoaB_size i hi.1 hi.2
  have s2 := itoaB_size k hk.1 hk.2
  rw [ht1] at s1
  rw [ht2] at s2
  have hv : Hid (Dig.sum ((⟨#[3]⟩ : ByteArray) ++ t1 ++ ⟨#[32]⟩ ++ t2 ++ ⟨#[32]⟩ ++ seed).data.toList = On.secret seed.data.toList i k) := by
    refine Lib.hid ?_
    rw [secret_data, ← ht1, ← ht2]
    rfl
  have H1 := Lib.hid ht1
  have H2 := Lib.hid ht2
  clear ht1 ht2
  have q1 : ((⟨#[3]⟩ : ByteArray) ++ t1).size ≤ 22 := by rw [app_size]; show 1 + _ ≤ _; omega
  have q2 : ((⟨#[3]⟩ : ByteArray) ++ t1 ++ ⟨#[32]⟩).size ≤ 23 := by rw [app_size]; show _ + 1 ≤ _; omega
  have q3 : ((⟨#[3]⟩ : ByteArray) ++ t1 ++ ⟨#[32]⟩ ++ t2).size ≤ 44 := by rw [app_size]; omega
  have q4 : ((⟨#[3]⟩ : ByteArray) ++ t1 ++ ⟨#[32]⟩ ++ t2 ++ ⟨#[32]⟩).size ≤ 45 := by rw [app_size]; show _ + 1 ≤ _; omega
  have q5 : ((⟨#[3]⟩ : ByteArray) ++ t1 ++ ⟨#[32]⟩ ++ t2 ++ ⟨#[32]⟩ ++ seed).size ≤ maxLen := by rw [app_size]; unfold maxLen; omega
  go_enter Tryz.func65, Tryz.ntmps65
  go_wp2_with fail
  refine (itoa_any i hi.1 hi.2 t1 H1 _ hT).mono ?_
  rintro e w1 ⟨rfl, hB1⟩
  have hT1 := hT.go hB1
  go_wp2_with fail
  refine (itoa_any k hk.1 hk.2 t2 H2 _ hT1).mono ?_
  rintro e w2 ⟨rfl, hB2⟩
  go_wp2_with fail
  refine (rsum_at _ _ _ hv q5).mono ?_
  rintro e w3 ⟨rfl, rfl⟩
  go_wp2_with fail
  go_ret
  exact ⟨rfl, bgo hB1 hB2⟩
end Go.Proofs.YtfjkmhbipkoefaaGreatDoor
