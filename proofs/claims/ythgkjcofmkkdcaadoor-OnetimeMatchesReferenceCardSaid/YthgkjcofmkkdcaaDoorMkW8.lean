/- The walks of package merkle, eighth part: zip. -/
import Derived.Test.YthgkjcofmkkdcaaDoorMkW7
import Derived.Lib.SliceRun
namespace Go.Proofs.YthgkjcofmkkdcaaDoor
open Go.RowKit Go.Shelf
set_option linter.unusedVariables false
attribute [local go_sem] Oper.semAt_some
/-- What zip's iterator reads. -/
def ZipK (Bx By : Nat) (A A' : Option Addr) (n c c' : Nat) (ss tt : List ByteArray) (W : World) : Prop :=
  W.cell? ⟨Bx, 0, none⟩ = some (.slice A n c) ∧ W.cell? ⟨By, 0, none⟩ = some (.slice A' n c') ∧ Sl W W.heap.size 1 A n (strV ss) ∧ Sl W W.heap.size 1 A' n (strV tt)
def ZipYield (P : Program) (l m n : Nat) (ss tt : List ByteArray) (J : Nat → World → Prop) (D : World → Prop) : Prop :=
  ∀ (k : Nat) (W : World) (x y : ByteArray), J k W → k < n → ss[k]? = some x → tt[k]? = some y →
    YieldAt Fence.wide m P l #[.string x, .string y] W fun e W' => (e = .returned (.bool true) ∧ J (k + 1) W') ∨ (e = .returned (.bool false) ∧ D W')
set_option maxRecDepth 100000 in
set_option maxHeartbeats 4000000 in
theorem zip1_any (l m n Bx By : Nat) (A A' : Option Addr) (c c' : Nat) (ss tt : List ByteArray) (W : World) (J : Nat → World → Prop) (D : World → Prop) (hn : n ≤ 1024) (hs : ss.length = n) (ht : tt.length = n) (hJ : J 0 W)
    (hK : ∀ k W', J k W' → ZipK Bx By A A' n c c' ss tt W') (hY : ZipYield Tryd.prog l m n ss tt J D) (hJd : ∀ k W', J k W' → J k W'.drew) :
    Calls Tryd.prog 77 #[.func (.yield l) #[] #[], .pointer (some ⟨Bx, 0, none⟩), .pointer (some ⟨By, 0, none⟩)] W fun e W' => (∃ v, e = .returned v) ∧ (J n W' ∨ D W') := by
  obtain ⟨k1, k2, k3, k4⟩ := hK 0 W hJ
  have HK := Lib.hid hK
  have HY := Lib.hid hY
  have HJ := Lib.hid hJ
  clear hK hY k3 k4
  have hmin : min (n : Int) (n : Int) = (n : Int) := Int.min_self _
  go_enter Tryd.func77, Tryd.ntmps77
  go_wp2
  go_loopw [10] (fun i wr => ∃ k : Nat, k ≤ n ∧ i = .int .i64 (k : Int) ∧ J k wr) (fun i _ => n - (intOf i).toNat)
  case atStart => exact ⟨0, Nat.zero_le _, rfl, HJ.out⟩
  case round =>
    obtain ⟨k, hk, rfl, hJk⟩ := hrel
    obtain ⟨kc1, kc2, ks1, ks2⟩ := HK.out k wr hJk
    have HJk := Lib.hid hJk
    clear hJk k1 k2 HJ
    by_cases hlt : k < n
    · obtain ⟨b1, o1, rfl, hb1, hc1⟩ := ks1.2 (by omega)
      obtain ⟨b2, o2, rfl, hb2, hc2⟩ := ks2.2 (by omega)
      obtain ⟨x, hx⟩ : ∃ x, ss[k]? = some x := ⟨_, List.getElem?_eq_getElem (by omega)⟩
      obtain ⟨y, hy⟩ : ∃ y, tt[k]? = some y := ⟨_, List.getElem?_eq_getElem (by omega)⟩
      have e1 : wr.cell? ⟨b1, o1 + k, none⟩ = some (.string x) := hc1 k _ (by simp [strV, hx])
      have e2 : wr.cell? ⟨b2, o2 + k, none⟩ = some (.string y) := hc2 k _ (by simp [strV, hy])
      have hyl := HY.out k wr.drew x y (hJd _ _ HJk.out) hlt hx hy
      obtain ⟨fn, tmps, assign, body, hyy, hR⟩ := hyl
      have HR := Lib.hid hR
      have hlt' : (k : Int) < (n : Int) := by omega
      clear hR hc1 hc2 ks1 ks2 hx hy
      refine (wpIn_wide (n := m + 1)).1 ?_
      gi_wp2
      refine wpIn_region_any (by kernel_rfl) ?_
      refine wpAnyIn_take (i := 0) (v := ?_) rfl rfl (by kernel_rfl) (by kernel_rfl) (by kernel_rfl) (fun _ _ _ h => h) ⟨Or.inl ⟨by rfl, ?_⟩, fun _ => rfl⟩ ?_
      rotate_left
      · intro wz; go_simp; first | done | with_reducible rfl
      refine wpAnyIn_take (i := 2) (v := ?_) rfl rfl (by kernel_rfl) (by kernel_rfl) (by kernel_rfl) (fun _ _ _ h => h) ⟨Or.inl ⟨by rfl, ?_⟩, fun _ => rfl⟩ ?_
      rotate_left
      · intro wz; go_simp; first | done | with_reducible rfl
      refine wpAnyIn_take (i := 6) (v := ?_) rfl rfl (by kernel_rfl) (by kernel_rfl) (by kernel_rfl) (fun _ _ _ h => h) ⟨Or.inl ⟨by rfl, ?_⟩, fun _ => rfl⟩ ?_
      rotate_left
      · intro wz; go_simp; first | done | with_reducible rfl
      refine wpAnyIn_ready (rs := [1, 5]) (by kernel_rfl) (by simp) ?_
      refine AllReadyIn.cons rfl (fun K hK => ?_) ?_
      · go_simp
        refine hK _ _ ?_
        clear hK K
        refine wpAnyIn_take (i := 3) (v := ?_) rfl rfl (by kernel_rfl) (by kernel_rfl) (by kernel_rfl) (fun _ _ _ h => h) ⟨Or.inl ⟨by rfl, ?_⟩, fun _ => rfl⟩ ?_
        rotate_left
        · intro wz; go_simp; first | done | with_reducible rfl
        refine wpAnyIn_ready (rs := [4, 5]) (by kernel_rfl) (by simp) ?_
        refine AllReadyIn.cons rfl (fun K hK => ?_) ?_
        · go_simp
          refine hK _ _ ?_
          clear hK K
          refine wpAnyIn_ready (rs := [5]) (by kernel_rfl) (by simp) ?_
          refine AllReadyIn.cons rfl (fun K hK => ?_) ?_
          · go_simp
            refine hK _ _ ?_
            clear hK K
            refine wpAnyIn_take (i := 7) (v := ?_) rfl rfl (by kernel_rfl) (by kernel_rfl) (by kernel_rfl) (fun _ _ _ h => h) ⟨Or.inl ⟨by rfl, ?_⟩, fun _ => rfl⟩ ?_
            rotate_left
            · intro wz; go_simp; first | done | with_reducible rfl
            refine wpAnyIn_ready (rs := [8]) (by kernel_rfl) (by simp) ?_
            refine AllReadyIn.cons rfl (fun K hK => ?_) ?_
            · go_simp
              refine hK _ _ ?_
              clear hK K
              refine wpAnyIn_ready (rs := [9]) (by kernel_rfl) (by simp) ?_
              refine AllReadyIn.cons rfl (fun K hK => ?_) ?_
              · go_simp
                refine HR.out.mono ?_
                intro e W2 hres
                obtain ⟨bb, he, hres⟩ : ∃ bb, e = .returned (.bool bb) ∧ (if bb = true then J (k + 1) W2 else D W2) := by
                  rcases hres with ⟨h1, h2⟩ | ⟨h1, h2⟩
                  · exact ⟨true, h1, h2⟩
                  · exact ⟨false, h1, h2⟩
                subst he
                have Hres := Lib.hid hres
                clear hres
                go_simp
                refine hK _ _ ?_
                clear hK K
                refine wpAnyIn_take (i := 10) (v := ?_) rfl rfl (by kernel_rfl) (by kernel_rfl) (by kernel_rfl) (fun _ _ _ h => h) ⟨Or.inl ⟨by rfl, ?_⟩, fun _ => rfl⟩ ?_
                rotate_left
                · intro wz; go_simp; first | done | with_reducible rfl
                refine wpAnyIn_done (by kernel_rfl) ?_ _
                cases bb
                · gi_wp2
                  refine bodyPost_ret (results_none rfl _ _ _) rfl ?_
                  exact ⟨⟨_, rfl⟩, .inr (by simpa using Hres.out)⟩
                · gi_wp2
                  exact ⟨⟨k + 1, by omega, by go_num, by have := Hres.out; simpa using this⟩, by simp [intOf]; omega⟩
              exact AllReadyIn.nil
            exact AllReadyIn.nil
          exact AllReadyIn.nil
        refine AllReadyIn.cons rfl (fun K hK => ?_) ?_
        · go_simp
          refine hK _ _ ?_
          clear hK K
          refine wpAnyIn_take (i := 7) (v := ?_) rfl rfl (by kernel_rfl) (by kernel_rfl) (by kernel_rfl) (fun _ _ _ h => h) ⟨Or.inl ⟨by rfl, ?_⟩, fun _ => rfl⟩ ?_
          rotate_left
          · intro wz; go_simp; first | done | with_reducible rfl
          refine wpAnyIn_ready (rs := [4, 8]) (by kernel_rfl) (by simp) ?_
          refine AllReadyIn.cons rfl (fun K hK => ?_) ?_
          · go_simp
            refine hK _ _ ?_
            clear hK K
            refine wpAnyIn_ready (rs := [8]) (by kernel_rfl) (by simp) ?_
            refine AllReadyIn.cons rfl (fun K hK => ?_) ?_
            · go_simp
              refine hK _ _ ?_
              clear hK K
              refine wpAnyIn_ready (rs := [9]) (by kernel_rfl) (by simp) ?_
              refine AllReadyIn.cons rfl (fun K hK => ?_) ?_
              · go_simp
                refine HR.out.mono ?_
                intro e W2 hres
                obtain ⟨bb, he, hres⟩ : ∃ bb, e = .returned (.bool bb) ∧ (if bb = true then J (k + 1) W2 else D W2) := by
                  rcases hres with ⟨h1, h2⟩ | ⟨h1, h2⟩
                  · exact ⟨true, h1, h2⟩
                  · exact ⟨false, h1, h2⟩
                subst he
                have Hres := Lib.hid hres
                clear hres
                go_simp
                refine hK _ _ ?_
                clear hK K
                refine wpAnyIn_take (i := 10) (v := ?_) rfl rfl (by kernel_rfl) (by kernel_rfl) (by kernel_rfl) (fun _ _ _ h => h) ⟨Or.inl ⟨by rfl, ?_⟩, fun _ => rfl⟩ ?_
                rotate_left
                · intro wz; go_simp; first | done | with_reducible rfl
                refine wpAnyIn_done (by kernel_rfl) ?_ _
                cases bb
                · gi_wp2
                  refine bodyPost_ret (results_none rfl _ _ _) rfl ?_
                  exact ⟨⟨_, rfl⟩, .inr (by simpa using Hres.out)⟩
                · gi_wp2
                  exact ⟨⟨k + 1, by omega, by go_num, by have := Hres.out; simpa using this⟩, by simp [intOf]; omega⟩
              exact AllReadyIn.nil
            exact AllReadyIn.nil
          refine AllReadyIn.cons rfl (fun K hK => ?_) ?_
          · go_simp
            refine hK _ _ ?_
            clear hK K
            refine wpAnyIn_ready (rs := [4]) (by kernel_rfl) (by simp) ?_
            refine AllReadyIn.cons rfl (fun K hK => ?_) ?_
            · go_simp
              refine hK _ _ ?_
              clear hK K
              refine wpAnyIn_ready (rs := [9]) (by kernel_rfl) (by simp) ?_
              refine AllReadyIn.cons rfl (fun K hK => ?_) ?_
              · go_simp
                refine HR.out.mono ?_
                intro e W2 hres
                obtain ⟨bb, he, hres⟩ : ∃ bb, e = .returned (.bool bb) ∧ (if bb = true then J (k + 1) W2 else D W2) := by
                  rcases hres with ⟨h1, h2⟩ | ⟨h1, h2⟩
                  · exact ⟨true, h1, h2⟩
                  · exact ⟨false, h1, h2⟩
                subst he
                have Hres := Lib.hid hres
                clear hres
                go_simp
                refine hK _ _ ?_
                clear hK K
                refine wpAnyIn_take (i := 10) (v := ?_) rfl rfl (by kernel_rfl) (by kernel_rfl) (by kernel_rfl) (fun _ _ _ h => h) ⟨Or.inl ⟨by rfl, ?_⟩, fun _ => rfl⟩ ?_
                rotate_left
                · intro wz; go_simp; first | done | with_reducible rfl
                refine wpAnyIn_done (by kernel_rfl) ?_ _
                cases bb
                · gi_wp2
                  refine bodyPost_ret (results_none rfl _ _ _) rfl ?_
                  exact ⟨⟨_, rfl⟩, .inr (by simpa using Hres.out)⟩
                · gi_wp2
                  exact ⟨⟨k + 1, by omega, by go_num, by have := Hres.out; simpa using this⟩, by simp [intOf]; omega⟩
              exact AllReadyIn.nil
            exact AllReadyIn.nil
          exact AllReadyIn.nil
        exact AllReadyIn.nil
      refine AllReadyIn.cons rfl (fun K hK => ?_) ?_
      · go_simp
        refine hK _ _ ?_
        clear hK K
        refine wpAnyIn_take (i := 7) (v := ?_) rfl rfl (by kernel_rfl) (by kernel_rfl) (by kernel_rfl) (fun _ _ _ h => h) ⟨Or.inl ⟨by rfl, ?_⟩, fun _ => rfl⟩ ?_
        rotate_left
        · intro wz; go_simp; first | done | with_reducible rfl
        refine wpAnyIn_ready (rs := [1, 8]) (by kernel_rfl) (by simp) ?_
        refine AllReadyIn.cons rfl (fun K hK => ?_) ?_
        · go_simp
          refine hK _ _ ?_
          clear hK K
          refine wpAnyIn_take (i := 3) (v := ?_) rfl rfl (by kernel_rfl) (by kernel_rfl) (by kernel_rfl) (fun _ _ _ h => h) ⟨Or.inl ⟨by rfl, ?_⟩, fun _ => rfl⟩ ?_
          rotate_left
          · intro wz; go_simp; first | done | with_reducible rfl
          refine wpAnyIn_ready (rs := [4, 8]) (by kernel_rfl) (by simp) ?_
          refine AllReadyIn.cons rfl (fun K hK => ?_) ?_
          · go_simp
            refine hK _ _ ?_
            clear hK K
            refine wpAnyIn_ready (rs := [8]) (by kernel_rfl) (by simp) ?_
            refine AllReadyIn.cons rfl (fun K hK => ?_) ?_
            · go_simp
              refine hK _ _ ?_
              clear hK K
              refine wpAnyIn_ready (rs := [9]) (by kernel_rfl) (by simp) ?_
              refine AllReadyIn.cons rfl (fun K hK => ?_) ?_
              · go_simp
                refine HR.out.mono ?_
                intro e W2 hres
                obtain ⟨bb, he, hres⟩ : ∃ bb, e = .returned (.bool bb) ∧ (if bb = true then J (k + 1) W2 else D W2) := by
                  rcases hres with ⟨h1, h2⟩ | ⟨h1, h2⟩
                  · exact ⟨true, h1, h2⟩
                  · exact ⟨false, h1, h2⟩
                subst he
                have Hres := Lib.hid hres
                clear hres
                go_simp
                refine hK _ _ ?_
                clear hK K
                refine wpAnyIn_take (i := 10) (v := ?_) rfl rfl (by kernel_rfl) (by kernel_rfl) (by kernel_rfl) (fun _ _ _ h => h) ⟨Or.inl ⟨by rfl, ?_⟩, fun _ => rfl⟩ ?_
                rotate_left
                · intro wz; go_simp; first | done | with_reducible rfl
                refine wpAnyIn_done (by kernel_rfl) ?_ _
                cases bb
                · gi_wp2
                  refine bodyPost_ret (results_none rfl _ _ _) rfl ?_
                  exact ⟨⟨_, rfl⟩, .inr (by simpa using Hres.out)⟩
                · gi_wp2
                  exact ⟨⟨k + 1, by omega, by go_num, by have := Hres.out; simpa using this⟩, by simp [intOf]; omega⟩
              exact AllReadyIn.nil
            exact AllReadyIn.nil
          refine AllReadyIn.cons rfl (fun K hK => ?_) ?_
          · go_simp
            refine hK _ _ ?_
            clear hK K
            refine wpAnyIn_ready (rs := [4]) (by kernel_rfl) (by simp) ?_
            refine AllReadyIn.cons rfl (fun K hK => ?_) ?_
            · go_simp
              refine hK _ _ ?_
              clear hK K
              refine wpAnyIn_ready (rs := [9]) (by kernel_rfl) (by simp) ?_
              refine AllReadyIn.cons rfl (fun K hK => ?_) ?_
              · go_simp
                refine HR.out.mono ?_
                intro e W2 hres
                obtain ⟨bb, he, hres⟩ : ∃ bb, e = .returned (.bool bb) ∧ (if bb = true then J (k + 1) W2 else D W2) := by
                  rcases hres with ⟨h1, h2⟩ | ⟨h1, h2⟩
                  · exact ⟨true, h1, h2⟩
                  · exact ⟨false, h1, h2⟩
                subst he
                have Hres := Lib.hid hres
                clear hres
                go_simp
                refine hK _ _ ?_
                clear hK K
                refine wpAnyIn_take (i := 10) (v := ?_) rfl rfl (by kernel_rfl) (by kernel_rfl) (by kernel_rfl) (fun _ _ _ h => h) ⟨Or.inl ⟨by rfl, ?_⟩, fun _ => rfl⟩ ?_
                rotate_left
                · intro wz; go_simp; first | done | with_reducible rfl
                refine wpAnyIn_done (by kernel_rfl) ?_ _
                cases bb
                · gi_wp2
                  refine bodyPost_ret (results_none rfl _ _ _) rfl ?_
                  exact ⟨⟨_, rfl⟩, .inr (by simpa using Hres.out)⟩
                · gi_wp2
                  exact ⟨⟨k + 1, by omega, by go_num, by have := Hres.out; simpa using this⟩, by simp [intOf]; omega⟩
              exact AllReadyIn.nil
            exact AllReadyIn.nil
          exact AllReadyIn.nil
        refine AllReadyIn.cons rfl (fun K hK => ?_) ?_
        · go_simp
          refine hK _ _ ?_
          clear hK K
          refine wpAnyIn_ready (rs := [1]) (by kernel_rfl) (by simp) ?_
          refine AllReadyIn.cons rfl (fun K hK => ?_) ?_
          · go_simp
            refine hK _ _ ?_
            clear hK K
            refine wpAnyIn_take (i := 3) (v := ?_) rfl rfl (by kernel_rfl) (by kernel_rfl) (by kernel_rfl) (fun _ _ _ h => h) ⟨Or.inl ⟨by rfl, ?_⟩, fun _ => rfl⟩ ?_
            rotate_left
            · intro wz; go_simp; first | done | with_reducible rfl
            refine wpAnyIn_ready (rs := [4]) (by kernel_rfl) (by simp) ?_
            refine AllReadyIn.cons rfl (fun K hK => ?_) ?_
            · go_simp
              refine hK _ _ ?_
              clear hK K
              refine wpAnyIn_ready (rs := [9]) (by kernel_rfl) (by simp) ?_
              refine AllReadyIn.cons rfl (fun K hK => ?_) ?_
              · go_simp
                refine HR.out.mono ?_
                intro e W2 hres
                obtain ⟨bb, he, hres⟩ : ∃ bb, e = .returned (.bool bb) ∧ (if bb = true then J (k + 1) W2 else D W2) := by
                  rcases hres with ⟨h1, h2⟩ | ⟨h1, h2⟩
                  · exact ⟨true, h1, h2⟩
                  · exact ⟨false, h1, h2⟩
                subst he
                have Hres := Lib.hid hres
                clear hres
                go_simp
                refine hK _ _ ?_
                clear hK K
                refine wpAnyIn_take (i := 10) (v := ?_) rfl rfl (by kernel_rfl) (by kernel_rfl) (by kernel_rfl) (fun _ _ _ h => h) ⟨Or.inl ⟨by rfl, ?_⟩, fun _ => rfl⟩ ?_
                rotate_left
                · intro wz; go_simp; first | done | with_reducible rfl
                refine wpAnyIn_done (by kernel_rfl) ?_ _
                cases bb
                · gi_wp2
                  refine bodyPost_ret (results_none rfl _ _ _) rfl ?_
                  exact ⟨⟨_, rfl⟩, .inr (by simpa using Hres.out)⟩
                · gi_wp2
                  exact ⟨⟨k + 1, by omega, by go_num, by have := Hres.out; simpa using this⟩, by simp [intOf]; omega⟩
              exact AllReadyIn.nil
            exact AllReadyIn.nil
          exact AllReadyIn.nil
        exact AllReadyIn.nil
      exact AllReadyIn.nil
    · have hkn : k = n := by omega
      subst hkn
      go_wp2
      go_end0
      exact ⟨⟨_, rfl⟩, .inl HJk.out⟩
theorem zip_any (A A' : Option Addr) (n c n' c' : Nat) (w : World) : Calls Tryd.prog 60 #[.slice A n c, .slice A' n' c'] w fun e w' => e = .returned (.func (.func 77) #[] #[.pointer (some ⟨w.heap.size, 0, none⟩), .pointer (some ⟨w.heap.size + 1, 0, none⟩)]) ∧ w' = (w.alloc (.cells #[.slice A n c] 28)).alloc (.cells #[.slice A' n' c'] 28) := by
  go_enter Tryd.func60, Tryd.ntmps60
  go_wp2
  go_ret
  exact ⟨by simp, rfl⟩
theorem eqlS (a : Addr) (n c : Nat) (w : World) : (binOp .eql 28 (.slice (some a) n c) (.slice none 0 0)).run Tryd.prog w = .ok (.bool false) w := Lib.run_eql_slice_nil w 28 9 (some a) n c 0 0 Tryd.underlying28
attribute [local go_sem] eqlS
set_option maxRecDepth 100000 in
theorem clone_any (A : Option Addr) (n c : Nat) (ss : List ByteArray) (w : World) (hA : Sl w w.heap.size 1 A n (strV ss)) (h1 : 1 ≤ n) (hn : n ≤ 1024) : Calls Tryd.prog 61 #[.slice A n c] w fun e w' => ∃ v, e = .returned v ∧ w'.ownsRow w.heap.size 9 1 v n (strV ss) ∧ Below w.heap.size w w' := by
  obtain ⟨i0, hj0, hz0, hz1, hz2⟩ := info_parts info_string
  obtain ⟨hlen, h2⟩ := hA
  obtain ⟨b, off, rfl, hb, hc⟩ := h2 (by omega)
  have Hc := Lib.hid hc
  have Hlen := Lib.hid hlen
  clear hc hlen h2
  go_enter Tryd.func61, Tryd.ntmps61
  have hnews : ∀ (j : Nat) (u : Value), (strV ss)[j]? = some u → (w.alloc (.cells #[] 9)).cell? ((⟨b, off, none⟩ : Addr).add j) = some u := fun j u hu => by
    rw [Addr.add_lit]
    exact (World.cell?_of_block (Below.heap_alloc _ _ _ hb)).trans (Hc.out j u hu)
  have hone : ∀ u ∈ strV ss, u.oneCell' = true := by
    intro u hu
    obtain ⟨x, _, rfl⟩ := List.mem_map.1 hu
    rfl
  have hown0 : (w.alloc (.cells #[] 9)).ownsRow w.heap.size 9 1 (.slice (some ⟨w.heap.size, 0, none⟩) 0 0) 0 [] := ⟨rfl, .inr ⟨w.heap.size, 0, #[], rfl, Nat.le_refl _, World.alloc_heap_new w _, Nat.le_refl _, Nat.zero_le _, rfl, rfl⟩⟩
  have Hnews := Lib.hid hnews
  have Hone := Lib.hid hone
  have Hown0 := Lib.hid hown0
  clear hnews hone hown0
  go_wp2_with (at_builtin; refine wpList_append_own _ rfl _ _ 28 rfl w.heap.size 9 i0 (.string ⟨#[]⟩) 1 16 Tryd.underlying28 hj0 hz0 hz1 hz2 rfl (by decide) _ _ _ rfl Hown0.out ⟨b, off, none⟩ n c (strV ss) rfl Hlen.out Hnews.out Hone.out ?c3 ?c4 ?c5 ?_)
  case c3 => unfold maxLen; omega
  case c4 => omega
  case c5 => simp
  intro v' w1 hown1 hg1 _
  have hB1 : Below w.heap.size w w1 := ((Below.refl _ _).alloc (Nat.le_refl _) _).grown hg1 (by simp) (fun k hk => by cases hk; exact Nat.le_refl _)
  clear hg1
  go_wp2
  go_ret
  exact ⟨_, rfl, hown1, hB1⟩
end Go.Proofs.YthgkjcofmkkdcaaDoor
