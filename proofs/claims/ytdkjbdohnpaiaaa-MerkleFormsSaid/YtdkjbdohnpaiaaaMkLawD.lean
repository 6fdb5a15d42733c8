/- The walk of MerkleForms. -/
import Derived.Test.YtdkjbdohnpaiaaaMkLawC
import Derived.Test.YtdkjbdohnpaiaaaApp2
import Derived.Deep.DeepCutAuto
import Derived.Deep.RegionLaw
namespace Go.Proofs.Ytdkjbdohnpaiaaa
open Go.RowKit Go.Shelf
set_option linter.unusedVariables false
theorem forkV_take (p : Forks) : ∀ m, (forkV p).take (m * 2) = forkV (p.take m) := by
  induction p with
  | nil => intro m; simp [forkV]
  | cons a p ih =>
    intro m
    cases m with
    | zero => simp [forkV]
    | succ m =>
      have := ih m
      have e : forkV (a :: p) = .int .u64 a.1.toNat :: .bool a.2 :: forkV p := rfl
      rw [e, show (m + 1) * 2 = m * 2 + 1 + 1 by omega, List.take_succ_cons, List.take_succ_cons, this]
      rfl
theorem forkV_set (p : Forks) : ∀ (k : Nat) (h : k < p.length) (y : Bool), (forkV p).set (k * 2 + 1) (.bool y) = forkV (p.set k ((p[k]).1, y)) := by
  induction p with
  | nil => intro k h; simp at h
  | cons a p ih =>
    intro k h y
    have e : forkV (a :: p) = .int .u64 a.1.toNat :: .bool a.2 :: forkV p := rfl
    cases k with
    | zero => rw [e]; rfl
    | succ k =>
      have := ih k (by simpa using h) y
      rw [e, show (k + 1) * 2 + 1 = (k * 2 + 1) + 1 + 1 by omega, List.set_cons_succ, List.set_cons_succ, this]
      rfl
theorem forkV_one (p : Forks) : ∀ u ∈ forkV p, u.oneCell' = true := by
  intro u hu
  unfold forkV at hu
  rw [List.mem_flatMap] at hu
  obtain ⟨x, _, hx⟩ := hu
  simp at hx
  rcases hx with rfl | rfl <;> rfl
theorem path_own (A : Option Addr) (c n : Nat) (ss : List ByteArray) (i : Int) (p : Forks) (e : Int) (w : World) (hn : ss.length = n) (hp : pathL ss i = p) (he : pathE n i = e) (hA : Sl w w.heap.size 1 A n (strV ss)) (hs : ∀ s ∈ ss, s.size ≤ 140737488355328) (hl : n ≤ 1100) :
    Calls Try.prog 15 #[.slice A n c, .int .i64 i] w fun r w' => ∃ B cap, r = .returned (.tuple #[.slice B p.length cap, .int .i64 e]) ∧ w'.ownsRow 0 42 2 (.slice B p.length cap) p.length (forkV p) ∧ Below w.heap.size w w' := by
  subst hn hp he
  refine (path_any A c ss i w hA hs (by unfold maxLen; omega)).mono ?_
  rintro r w' ⟨v, rfl, h, hB⟩
  obtain ⟨B, cap, rfl, hS⟩ := own_slice h
  refine ⟨B, cap, rfl, ⟨h.1, ?_⟩, hB⟩
  rcases h.2 with h0 | ⟨g, cap', cur, hv, h1, h2⟩
  · exact .inl h0
  · exact .inr ⟨g, cap', cur, hv, Nat.zero_le _, h2⟩
theorem own_cap {W : World} {base : Nat} {e : TypeId} {size n cap g : Nat} {xs : List Value} (h : W.ownsRow base e size (.slice (some ⟨g, 0, none⟩) n cap) n xs) : n ≤ cap ∧ cap ≤ maxLen := by
  rcases h.2 with ⟨h0, _⟩ | ⟨g', cap', cur, hv, h1, h2, h3, h4, _⟩
  · cases h0
  · injection hv with e1 e2 e3
    subst e3
    exact ⟨h3, h4⟩
theorem base_mono' {W : World} {B B' : Nat} {e : TypeId} {size n : Nat} {v : Value} {xs : List Value} (h : W.ownsRow B e size v n xs) (hb : B' ≤ B) : W.ownsRow B' e size v n xs := by
  refine ⟨h.1, ?_⟩
  rcases h.2 with h0 | ⟨g, cap, cur, hv, h1, h2⟩
  · exact .inl h0
  · exact .inr ⟨g, cap, cur, hv, by omega, h2⟩
theorem own_go {W W' : World} {base : Nat} {e : TypeId} {size n : Nat} {v : Value} {xs : List Value} (h : W.ownsRow base e size v n xs) (k : Below W.heap.size W W') : W'.ownsRow base e size v n xs := own_below h k
theorem forms_facts (ss : List ByteArray) (i : Nat) (h2 : ss.length ≤ 80) (hi : i < ss.length) (r : UInt64) (x : ByteArray) (p : Forks) (hp : pathL ss (i : Int) = p) (ex : UInt64 × Bool) :
    verifyB r (ss.length : Int) (i : Int) x (p ++ [ex]) = false ∧ verifyB r (ss.length : Int) (ss.length : Int) x p = false ∧ verifyB r (ss.length : Int) (-1) x p = false ∧ verifyB r 0 0 x p = false ∧
    (∀ k (hk : k < p.length), verifyB r (ss.length : Int) (i : Int) x (p.set k ((p[k]).1, !(p[k]).2)) = false) ∧ (0 < p.length → verifyB r (ss.length : Int) (i : Int) x (p.take (p.length - 1)) = false) := by
  have hm := path_map ss i (by omega) hi
  rw [hp] at hm
  refine ⟨verify_no _ _ _ _ _ ?_, verify_no _ _ _ _ _ ?_, verify_no _ _ _ _ _ ?_, verify_no _ _ _ _ _ ?_, fun k hk => verify_no _ _ _ _ _ ?_, fun hk => verify_no _ _ _ _ _ ?_⟩
  · rintro ⟨_, e⟩
    rw [← hm] at e
    have := congrArg List.length e
    simp at this
  · rintro ⟨h, _⟩
    unfold sidesOk at h; omega
  · rintro ⟨h, _⟩
    unfold sidesOk at h; omega
  · rintro ⟨h, _⟩
    unfold sidesOk at h; omega
  · rintro ⟨_, e⟩
    rw [← hm] at e
    have h1 : (p.map (·.2))[k]? = ((p.set k ((p[k]).1, !(p[k]).2)).map (·.2))[k]? := by rw [e]
    simp [hk] at h1
  · rintro ⟨_, e⟩
    rw [← hm] at e
    have := congrArg List.length e
    simp at this
    omega
set_option maxRecDepth 100000 in
set_option maxHeartbeats 2000000 in
theorem merkleForms_walk (A : Option Addr) (c : Nat) (ss : List ByteArray) (ii at_ : Int) (z : Int) (o : Bool) (w : World) (hA : Sl w w.heap.size 1 A ss.length (strV ss)) (hlc : ss.length ≤ c ∧ c ≤ maxLen) (hs : ∀ s ∈ ss, s.size ≤ maxLen) (hk : (Lit.int .u8 ii).wf = true) (hk2 : (Lit.int .u8 at_).wf = true) (hz : (Lit.int .u64 z).wf = true) :
    Calls Try.prog 6 #[.slice A ss.length c, .int .u8 ii, .int .u8 at_, .agg #[.int .u64 z, .bool o]] w fun e w' => e = .returned (.bool true) ∧ Below w.heap.size w w' := by
  obtain ⟨u, rfl⟩ := u8_of_wf hk
  obtain ⟨u2, rfl⟩ := u8_of_wf hk2
  obtain ⟨zz, rfl⟩ := u64_of_wf hz
  obtain ⟨i0, hj0, hz0, hz1, hz2⟩ := info_parts info_fork
  have HA := Lib.hid hA
  clear hA hs hk hk2 hz hlc
  have hu0 : (0 : Int) ≤ (u.toNat : Int) := Int.natCast_nonneg _
  have hu1 : (u.toNat : Int) ≤ 255 := by have := u.toNat_lt; omega
  have hv0 : (0 : Int) ≤ (u2.toNat : Int) := Int.natCast_nonneg _
  have hv1 : (u2.toNat : Int) ≤ 255 := by have := u2.toNat_lt; omega
  by_cases hsm : smallB ss = true
  · have Hs := Lib.hid (small_lens hsm)
    have h80 : ss.length ≤ 80 := Hs.out.1
    by_cases h0 : ss.length = 0
    · have hd0 : ((ss.length : Int) == 0) = true := by simp [h0]
      clear h0
      go_enter Try.func6, Try.ntmps6
      go_wp2_with fail
      refine (head_any _).mono ?_
      rintro e w1 ⟨rfl, hB1⟩
      have hB1' := bgo (bal (Below.refl _ _) _) hB1
      clear hB1
      go_wp2_with fail
      refine (small_any _ _ _ _ (HA.out.go hB1')).mono ?_
      rintro e w' ⟨rfl, rfl⟩
      go_wp2_with fail
      go_ret
      exact ⟨rfl, hB1'⟩
    · have hd0 : ((ss.length : Int) == 0) = false := beq_eq_false_iff_ne.2 (by omega)
      have hpos : 0 < ss.length := by omega
      clear h0
      obtain ⟨j, hj, hjn⟩ := u8_mod u ss.length hpos
      have hji : (j : Int) < (ss.length : Int) := by omega
      have e0 := checkE_ok ss.length hpos (by omega)
      have e1 := pathE_ok ss.length j (by omega) hjn
      have hL := pathL_len ss j (by omega) hjn
      obtain ⟨r, hr⟩ : ∃ r, rootV ss = r := ⟨_, rfl⟩
      obtain ⟨p, hp⟩ : ∃ p, pathL ss (j : Int) = p := ⟨_, rfl⟩
      obtain ⟨x, hx⟩ : ∃ x, ss[j] = x := ⟨_, rfl⟩
      have hsz : x.size ≤ 140737488355328 := by rw [← hx]; exact Hs.out.2 _ (List.getElem_mem hjn)
      rw [hp] at hL
      have hff := forms_facts ss j h80 hjn r x p hp (zz, o)
      have F := Lib.hid (And.intro e0 (And.intro e1 (And.intro hr (And.intro hp hff))))
      have Hx := Lib.hid hx
      clear e0 e1 hr hp hff hx
      have hd20 : decide ((20 : Int) < (p.length : Int)) = false := decide_eq_false (by omega)
      go_enter Try.func6, Try.ntmps6
      go_wp2_with fail
      refine (head_any _).mono ?_
      rintro e w1 ⟨rfl, hB1⟩
      have hb0 : w1.cell? ⟨w.heap.size, 0, none⟩ = some (.int .u64 zz.toNat) := (hB1.cell (p := ⟨w.heap.size, 0, none⟩) (by simp)).trans (by simp [go_sem])
      have hb1 : w1.cell? ⟨w.heap.size, 1, none⟩ = some (.bool o) := (hB1.cell (p := ⟨w.heap.size, 1, none⟩) (by simp)).trans (by simp [go_sem])
      have hbs : w.heap.size < w1.heap.size := by have := hB1.size; simp at this; omega
      have hB1' := bgo (bal (Below.refl _ _) _) hB1
      clear hB1
      go_wp2_with fail
      refine (small_any _ _ _ _ (HA.out.go hB1')).mono ?_
      rintro e w' ⟨rfl, rfl⟩
      go_wp2_with fail
      refine (root_at A c ss.length ss r 0 w1 rfl F.out.2.2.1 F.out.1 (HA.out.go hB1') Hs.out.2 (by omega)).mono ?_
      rintro e w2 ⟨rfl, hB⟩
      have hB2 := bgo hB1' hB
      have hb0' := (hB.cell (p := ⟨w.heap.size, 0, none⟩) hbs).trans hb0
      have hb1' := (hB.cell (p := ⟨w.heap.size, 1, none⟩) hbs).trans hb1
      have hbs' := Nat.lt_of_lt_of_le hbs hB.size
      clear hB hB1' hb0 hb1 hbs
      go_wp2_with fail
      refine (path_own A c ss.length ss (j : Int) p 0 w2 rfl F.out.2.2.2.1 F.out.2.1 (HA.out.go hB2) Hs.out.2 (by omega)).mono ?_
      rintro e w3 ⟨B3, cap3, rfl, hown3, hB⟩
      have hB3 := bgo hB2 hB
      have hb0 := (hB.cell (p := ⟨w.heap.size, 0, none⟩) hbs').trans hb0'
      have hb1 := (hB.cell (p := ⟨w.heap.size, 1, none⟩) hbs').trans hb1'
      have hbs := Nat.lt_of_lt_of_le hbs' hB.size
      have Hown3 := Lib.hid hown3
      clear hB hB2 hb0' hb1' hbs' hown3
      go_upto_region 10 with fail
      have hsrc : Src w3.drew 2 (.slice B3 p.length cap3) p.length (forkV p) := own_src Hown3.out
      have ownA : (w3.drew.alloc (.cells #[] 42)).ownsRow w3.heap.size 42 2 (.slice (some ⟨w3.heap.size, 0, none⟩) 0 0) 0 [] := own_empty w3.drew _ _ 2 rfl
      have belD : Below w3.heap.size w3 w3.drew := (Below.refl _ _).drew
      have ownC : ((w3.drew.alloc (.cells #[.int .u64 zz.toNat, .bool o] 42)).alloc (.cells #[] 42)).ownsRow w3.heap.size 42 2 (.slice (some ⟨w3.heap.size + 1, 0, none⟩) 0 0) 0 [] := by
        have h := own_empty (w3.drew.alloc (.cells #[.int .u64 zz.toNat, .bool o] 42)) 42 42 2 rfl
        have e : (w3.drew.alloc (.cells #[.int .u64 zz.toNat, .bool o] 42)).heap.size = w3.heap.size + 1 := by simp
        rw [e] at h
        exact base_mono' h (by omega)
      have srcB : Src ((w3.drew.alloc (.cells #[] 42)).alloc (.cells #[.int .u64 zz.toNat, .bool o] 42)) 2 (.slice (some ⟨w3.heap.size + 1, 0, none⟩) 1 1) 1 [.int .u64 zz.toNat, .bool o] := by
        have h := block_src (w3.drew.alloc (.cells #[] 42)) [.int .u64 zz.toNat, .bool o] 42 (0, 0) 1 1 2 rfl
        have e : (w3.drew.alloc (.cells #[] 42)).heap.size = w3.heap.size + 1 := by simp
        rw [e] at h
        exact h
      have srcC : Src ((w3.drew.alloc (.cells #[.int .u64 zz.toNat, .bool o] 42)).alloc (.cells #[] 42)) 2 (.slice (some ⟨w3.heap.size, 0, none⟩) 1 1) 1 [.int .u64 zz.toNat, .bool o] := (block_src w3.drew [.int .u64 zz.toNat, .bool o] 42 (0, 0) 1 1 2 rfl).al _
      have G := Lib.hid (And.intro ownA (And.intro hsrc belD))
      have GC := Lib.hid (And.intro ownC (And.intro srcB srcC))
      clear hsrc ownA belD ownC srcB srcC
      go_cut [16] (fun s16 wx => ∃ A cap, s16 = .slice A (p.length + 1) cap ∧ Sl wx wx.heap.size 2 A (p.length + 1) (forkV (p ++ [(zz, o)])) ∧ Below w3.heap.size w3 wx)
      case first =>
        go_region_held3 (fun w' => w'.cell? ⟨w.heap.size, 0, none⟩ = some (.int .u64 zz.toNat) ∧ w'.cell? ⟨w.heap.size, 1, none⟩ = some (.bool o))
          (go_keep)
          (first
            | (refine step_src (w0 := w3) (by rfl) _ _ 25 (by rfl) 42 i0 (.agg #[.int .u64 0, .bool false]) 2 16 Try.underlying25 hj0 hz0 hz1 hz2 (by rfl) (by decide) (.slice (some ⟨w3.heap.size, 0, none⟩) 0 0) 0 [] (by rfl) G.out.1 (bal G.out.2.2 _) (.slice B3 p.length cap3) p.length (forkV p) (by rfl) (G.out.2.1.al _) (by first | exact forkV_one _ | simp [Value.oneCell']) (by unfold maxLen; omega) (by omega) ?_; intro v4 w4 hown4 hB4 hk4; rw [Nat.zero_add, List.nil_append] at hown4; have q0 : w4.cell? ⟨w.heap.size, 0, none⟩ = some (.int .u64 zz.toNat) := (hB4.cell (p := ⟨w.heap.size, 0, none⟩) hbs).trans hb0; have q1 : w4.cell? ⟨w.heap.size, 1, none⟩ = some (.bool o) := (hB4.cell (p := ⟨w.heap.size, 1, none⟩) hbs).trans hb1)
            | (refine step_src (w0 := w3) (by rfl) _ _ 25 (by rfl) 42 i0 (.agg #[.int .u64 0, .bool false]) 2 16 Try.underlying25 hj0 hz0 hz1 hz2 (by rfl) (by decide) (.slice (some ⟨w3.heap.size, 0, none⟩) 0 0) 0 [] (by rfl) (G.out.1.alloc _) (bal (bal G.out.2.2 _) _) (.slice B3 p.length cap3) p.length (forkV p) (by rfl) ((G.out.2.1.al _).al _) (by first | exact forkV_one _ | simp [Value.oneCell']) (by unfold maxLen; omega) (by omega) ?_; intro v4 w4 hown4 hB4 hk4; rw [Nat.zero_add, List.nil_append] at hown4; have q0 : w4.cell? ⟨w.heap.size, 0, none⟩ = some (.int .u64 zz.toNat) := (hB4.cell (p := ⟨w.heap.size, 0, none⟩) hbs).trans hb0; have q1 : w4.cell? ⟨w.heap.size, 1, none⟩ = some (.bool o) := (hB4.cell (p := ⟨w.heap.size, 1, none⟩) hbs).trans hb1)
            | (refine step_src (w0 := w3) (by rfl) _ _ 25 (by rfl) 42 i0 (.agg #[.int .u64 0, .bool false]) 2 16 Try.underlying25 hj0 hz0 hz1 hz2 (by rfl) (by decide) (.slice (some ⟨w3.heap.size + 1, 0, none⟩) 0 0) 0 [] (by rfl) GC.out.1 (bal (bal G.out.2.2 _) _) (.slice B3 p.length cap3) p.length (forkV p) (by rfl) ((G.out.2.1.al _).al _) (by first | exact forkV_one _ | simp [Value.oneCell']) (by unfold maxLen; omega) (by omega) ?_; intro v4 w4 hown4 hB4 hk4; rw [Nat.zero_add, List.nil_append] at hown4; have q0 : w4.cell? ⟨w.heap.size, 0, none⟩ = some (.int .u64 zz.toNat) := (hB4.cell (p := ⟨w.heap.size, 0, none⟩) hbs).trans hb0; have q1 : w4.cell? ⟨w.heap.size, 1, none⟩ = some (.bool o) := (hB4.cell (p := ⟨w.heap.size, 1, none⟩) hbs).trans hb1)
            | (refine step_src (w0 := w3) (by rfl) _ _ 25 (by rfl) 42 i0 (.agg #[.int .u64 0, .bool false]) 2 16 Try.underlying25 hj0 hz0 hz1 hz2 (by rfl) (by decide) v4 p.length (forkV p) (by rfl) (hown4.alloc _) (bal hB4 _) (.slice (some ⟨w4.heap.size, 0, none⟩) 1 1) 1 [.int .u64 zz.toNat, .bool o] (by rfl) (block_src w4 [.int .u64 zz.toNat, .bool o] _ _ 1 1 2 rfl) (by first | exact forkV_one _ | simp [Value.oneCell']) (by unfold maxLen; omega) (by omega) ?_; intro v5 w5 hown5 hB5 hk5; have q2 : w5.cell? ⟨w.heap.size, 0, none⟩ = some (.int .u64 zz.toNat) := (hB5.cell (p := ⟨w.heap.size, 0, none⟩) hbs).trans hb0; have q3 : w5.cell? ⟨w.heap.size, 1, none⟩ = some (.bool o) := (hB5.cell (p := ⟨w.heap.size, 1, none⟩) hbs).trans hb1)
            | (refine step_src (w0 := w3) (by rfl) _ _ 25 (by rfl) 42 i0 (.agg #[.int .u64 0, .bool false]) 2 16 Try.underlying25 hj0 hz0 hz1 hz2 (by rfl) (by decide) v4 p.length (forkV p) (by rfl) hown4 hB4 (.slice (some ⟨w3.heap.size + 1, 0, none⟩) 1 1) 1 [.int .u64 zz.toNat, .bool o] (by rfl) (Src.kept GC.out.2.1 hk4 (by simp [Value.ownBlock])) (by first | exact forkV_one _ | simp [Value.oneCell']) (by unfold maxLen; omega) (by omega) ?_; intro v5 w5 hown5 hB5 hk5; have q2 : w5.cell? ⟨w.heap.size, 0, none⟩ = some (.int .u64 zz.toNat) := (hB5.cell (p := ⟨w.heap.size, 0, none⟩) hbs).trans hb0; have q3 : w5.cell? ⟨w.heap.size, 1, none⟩ = some (.bool o) := (hB5.cell (p := ⟨w.heap.size, 1, none⟩) hbs).trans hb1)
            | (refine step_src (w0 := w3) (by rfl) _ _ 25 (by rfl) 42 i0 (.agg #[.int .u64 0, .bool false]) 2 16 Try.underlying25 hj0 hz0 hz1 hz2 (by rfl) (by decide) v4 p.length (forkV p) (by rfl) hown4 hB4 (.slice (some ⟨w3.heap.size, 0, none⟩) 1 1) 1 [.int .u64 zz.toNat, .bool o] (by rfl) (Src.kept GC.out.2.2 hk4 (by simp [Value.ownBlock])) (by first | exact forkV_one _ | simp [Value.oneCell']) (by unfold maxLen; omega) (by omega) ?_; intro v5 w5 hown5 hB5 hk5; have q2 : w5.cell? ⟨w.heap.size, 0, none⟩ = some (.int .u64 zz.toNat) := (hB5.cell (p := ⟨w.heap.size, 0, none⟩) hbs).trans hb0; have q3 : w5.cell? ⟨w.heap.size, 1, none⟩ = some (.bool o) := (hB5.cell (p := ⟨w.heap.size, 1, none⟩) hbs).trans hb1))
        all_goals
          go_wp2_with fail
          go_meet
          obtain ⟨A5, cap5, hv5, hS5⟩ := own_slice hown5
          rw [forkV_snoc]
          exact ⟨A5, cap5, hv5, hS5, hB5⟩
      case rest =>
        obtain ⟨A6, cap6, rfl, hS6, hB6⟩ := hcut
        have hBw := bgo hB3 hB6
        have hp6 := own_slice (own_go Hown3.out hB6)
        have Hown6 := Lib.hid (own_go Hown3.out hB6)
        obtain ⟨B6, c6, hv6, hSp6⟩ := hp6
        injection hv6 with ev1 ev2 ev3
        subst ev1 ev3
        obtain ⟨b, off, rfl, hb, hcell⟩ := (HA.out.go hBw).2 hpos
        have hc : wc.cell? ⟨b, off + j, none⟩ = some (.string x) := hcell j _ (by rw [← Hx.out]; simp [strV, hjn])
        have HS6 := Lib.hid hS6
        have HSp6 := Lib.hid hSp6
        have Hbb := Lib.hid hb
        clear hS6 hSp6 hcell hB6 hB3 hb0 hb1 hbs Hown3 G GC hb
        have pl : (p ++ [(zz, o)]).length = p.length + 1 := by simp
        have Hpl := Lib.hid pl
        clear pl
        go_wp2_with fail
        refine (verify_at A6 cap6 (p.length + 1) r (ss.length : Int) (j : Int) x (p ++ [(zz, o)]) false wc Hpl.out F.out.2.2.2.2.1 HS6.out hsz).mono ?_
        rintro e w7 ⟨rfl, hB⟩
        have hB7 := bgo hBw hB
        have hc7 := (hB.cell (p := ⟨b, off + j, none⟩) Hbb.out).trans hc
        have HSp7 := Lib.hid (HSp6.out.go hB)
        have Hown7 := Lib.hid (own_go Hown6.out hB)
        have Hbb7 := Lib.hid (Nat.lt_of_lt_of_le Hbb.out hB.size)
        clear hB hBw hc HS6 HSp6 Hown6 Hbb
        go_wp2_with fail
        refine (verify_at _ _ p.length r (ss.length : Int) (ss.length : Int) x p false w7 rfl F.out.2.2.2.2.2.1 HSp7.out hsz).mono ?_
        rintro e w8 ⟨rfl, hB⟩
        have hB8 := bgo hB7 hB
        have hc8 := (hB.cell (p := ⟨b, off + j, none⟩) Hbb7.out).trans hc7
        have HSp8 := Lib.hid (HSp7.out.go hB)
        have Hown8 := Lib.hid (own_go Hown7.out hB)
        have Hbb8 := Lib.hid (Nat.lt_of_lt_of_le Hbb7.out hB.size)
        clear hB hB7 hc7 HSp7 Hown7 Hbb7
        go_wp2_with fail
        refine (verify_at _ _ p.length r (ss.length : Int) (-1) x p false w8 rfl F.out.2.2.2.2.2.2.1 HSp8.out hsz).mono ?_
        rintro e w9 ⟨rfl, hB⟩
        have hB9 := bgo hB8 hB
        have hc9 := (hB.cell (p := ⟨b, off + j, none⟩) Hbb8.out).trans hc8
        have HSp9 := Lib.hid (HSp8.out.go hB)
        have Hown9 := Lib.hid (own_go Hown8.out hB)
        have Hbb9 := Lib.hid (Nat.lt_of_lt_of_le Hbb8.out hB.size)
        clear hB hB8 hc8 HSp8 Hown8 Hbb8
        go_wp2_with fail
        refine (verify_at _ _ p.length r 0 0 x p false w9 rfl F.out.2.2.2.2.2.2.2.1 HSp9.out hsz).mono ?_
        rintro e wa ⟨rfl, hB⟩
        have hBa := bgo hB9 hB
        have hca := (hB.cell (p := ⟨b, off + j, none⟩) Hbb9.out).trans hc9
        have HSpa := Lib.hid (HSp9.out.go hB)
        have Howna := Lib.hid (own_go Hown9.out hB)
        have Hbba := Lib.hid (Nat.lt_of_lt_of_le Hbb9.out hB.size)
        clear hB hB9 hc9 HSp9 Hown9 Hbb9
        by_cases hp0 : p.length = 0
        · have hd1 : ((p.length : Int) == 0) = true := by simp [hp0]
          clear hp0
          go_wp2_with fail
          go_ret
          exact ⟨rfl, hBa⟩
        · have hd1 : ((p.length : Int) == 0) = false := beq_eq_false_iff_ne.2 (by omega)
          have hpp : 0 < p.length := by omega
          obtain ⟨k, hk, hkn⟩ := u8_mod u2 p.length hpp
          have hki : (k : Int) < (p.length : Int) := by omega
          have ownA := own_empty wa 42 42 2 rfl
          have srcA := (own_src Howna.out).al (.cells #[] 42)
          have G := Lib.hid (And.intro ownA srcA)
          clear ownA srcA hp0
          go_wp2_with (at_builtin; refine app_src (w0 := wa) rfl _ _ 25 rfl 42 i0 (.agg #[.int .u64 0, .bool false]) 2 16 Try.underlying25 hj0 hz0 hz1 hz2 rfl (by decide) (.slice (some ⟨wa.heap.size, 0, none⟩) 0 0) 0 [] rfl G.out.1 (bal (Below.refl _ _) _) _ p.length (forkV p) rfl G.out.2 (forkV_one _) (by unfold maxLen; omega) (by omega) ?_)
          intro vb wb hownb hB hkb
          clear hkb
          have hBb := bgo hBa hB
          have hcb := (hB.cell (p := ⟨b, off + j, none⟩) Hbba.out).trans hca
          have Hownp := Lib.hid (own_go Howna.out hB)
          have hbb := Nat.lt_of_lt_of_le Hbba.out hB.size
          obtain ⟨g, capb, hvb⟩ : ∃ g cap, vb = .slice (some ⟨g, 0, none⟩) p.length cap := by
            obtain ⟨n', hn'⟩ : ∃ n', p.length = n' + 1 := ⟨p.length - 1, by omega⟩
            rw [hn'] at hownb ⊢
            exact ownsRow_succ hownb
          subst hvb
          obtain ⟨gp, hvp⟩ : ∃ gp, B3 = some ⟨gp, 0, none⟩ := by
            rcases Howna.out.2 with ⟨h1, h2⟩ | ⟨gp, _, _, h1, _⟩
            · omega
            · injection h1 with h1; exact ⟨gp, h1⟩
          subst hvp
          have hgp : gp < wa.heap.size := (Howna.out.lt gp rfl).2
          have hg := hownb.lt g rfl
          have hcap := own_cap Howna.out
          unfold maxLen at hcap
          obtain ⟨y, hy⟩ : ∃ y, p[k].2 = y := ⟨_, rfl⟩
          have hcy : wb.cell? ⟨g, k * 2 + 1, none⟩ = some (.bool y) := (hownb.cellAt (k * 2 + 1) (by omega)).trans (by rw [forkV_get2 p k hkn, hy])
          have hfy : wb.frozen? ⟨g, k * 2 + 1, none⟩ = false := hownb.frozenAt _
          have hst := (hownb.stored (k * 2 + 1) (.bool (!y))).1
          rw [forkV_set p k hkn] at hst
          have V5 := F.out.2.2.2.2.2.2.2.2.1 k hkn
          rw [hy] at V5
          obtain ⟨ps, hps⟩ : ∃ ps, p.set k (p[k].1, !y) = ps := ⟨_, rfl⟩
          have hpsl : ps.length = p.length := by rw [← hps]; exact List.length_set
          rw [hps] at hst V5
          have hBs : Below wa.heap.size wa (wb.setCell ⟨g, k * 2 + 1, none⟩ (.bool (!y))) := hB.setCell hg.1 _
          have hcs : (wb.setCell ⟨g, k * 2 + 1, none⟩ (.bool (!y))).cell? ⟨b, off + j, none⟩ = some (.string x) := (hBs.cell (p := ⟨b, off + j, none⟩) Hbba.out).trans hca
          have Hownps := Lib.hid (own_go Howna.out hBs)
          have X := Lib.hid (And.intro hst (And.intro hpsl (And.intro V5 (And.intro (F.out.2.2.2.2.2.2.2.2.2 hpp) hBs))))
          clear hst hpsl V5 hBs hy hps hownb hB Hownp hca
          have hp1 : (0 : Int) ≤ (p.length : Int) - 1 := by omega
          have hp2 : (p.length : Int) - 1 ≤ (cap3 : Int) := by omega
          go_wp2_with fail
          obtain ⟨ws, hws⟩ : ∃ ws, ws = wb.setCell ⟨g, k * 2 + 1, none⟩ (.bool (!y)) := ⟨_, rfl⟩
          rw [← hws] at hcs X Hownps ⊢
          clear hws hcy hfy hcb
          have hBw := bgo hBa X.out.2.2.2.2
          have hbw := Nat.lt_of_lt_of_le Hbba.out X.out.2.2.2.2.size
          have hSs : Sl ws.drew ws.drew.heap.size 2 (some ⟨g, 0, none⟩) p.length (forkV ps) := by
            obtain ⟨A7, c7, hv7, hS7⟩ := own_slice X.out.1
            injection hv7 with h1 h2 h3
            subst h1
            exact hS7
          have hSt : Sl ws.drew ws.drew.heap.size 2 (some ⟨gp, 0, none⟩) (p.length - 1) (forkV (p.take (p.length - 1))) := by
            obtain ⟨A7, c7, hv7, hS7⟩ := own_slice Hownps.out
            injection hv7 with h1 h2 h3
            subst h1
            rw [← forkV_take]
            exact hS7.take _ (by omega)
          have htl : (p.take (p.length - 1)).length = p.length - 1 := by rw [List.length_take]; omega
          have Y := Lib.hid (And.intro hSs (And.intro hSt htl))
          have HK : Hid (∀ W', Below ws.drew.heap.size ws.drew W' → W'.cell? ⟨b, off + j, none⟩ = some (.string x)) := Lib.hid fun W' h => (h.cell (p := ⟨b, off + j, none⟩) hbw).trans hcs
          clear hSs hSt htl
          have hwr : IntKind.i64.wrap ((p.length : Int) - 1) = (p.length : Int) - 1 := IntWalk.i64_in _ (by omega)
          have htn : ((p.length : Int) - 1).toNat = p.length - 1 := by omega
          have hjw : (0 : Int) ≤ (j : Int) := Int.natCast_nonneg _
          have hp3 : p.length ≤ cap3 + 1 := by omega
          have hp4 : (p.length : Int) ≤ (cap3 : Int) + 1 := by omega
          have hp5 : (1 : Int) ≤ (p.length : Int) := by omega
          have hp6 : 1 ≤ p.length := by omega
          have hp7 : p.length - 1 ≤ cap3 := by omega
          go_region_held3 (fun w' => w'.cell? ⟨b, off + j, none⟩ = some (.string x))
            (go_keep)
            (first
              | (go_at_call 18; (with_reducible refine (verify_at (some ⟨g, 0, none⟩) capb p.length r (ss.length : Int) (j : Int) x ps false ws.drew X.out.2.1 X.out.2.2.1 Y.out.1 hsz).mono ?_); rintro e wt ⟨rfl, hBt⟩; have hct := HK.out _ hBt)
              | (go_at_call 18; (with_reducible refine (verify_at (some ⟨gp, 0, none⟩) cap3 (p.length - 1) r (ss.length : Int) (j : Int) x (p.take (p.length - 1)) false wt Y.out.2.2 X.out.2.2.2.1 (Sl.go (W := ws.drew) Y.out.2.1 hBt) hsz).mono ?_); rintro e wv ⟨rfl, hBv⟩; have hcv := HK.out _ (bgo hBt hBv)))
          all_goals
            clear hwr htn
            go_wp2_with fail
            go_ret
            exact ⟨rfl, bgo (bgo hBw (below_undrew hBt)) hBv⟩
  · have hsm' : smallB ss = false := by simpa using hsm
    clear hsm
    go_enter Try.func6, Try.ntmps6
    go_wp2_with fail
    refine (head_any _).mono ?_
    rintro e w1 ⟨rfl, hB1⟩
    have hB1' := bgo (bal (Below.refl _ _) _) hB1
    clear hB1
    go_wp2_with fail
    refine (small_any _ _ _ _ (HA.out.go hB1')).mono ?_
    rintro e w' ⟨rfl, rfl⟩
    go_wp2_with fail
    go_ret
    exact ⟨rfl, hB1'⟩
end Go.Proofs.Ytdkjbdohnpaiaaa
