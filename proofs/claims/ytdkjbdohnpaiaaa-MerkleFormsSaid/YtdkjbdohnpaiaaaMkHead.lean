/- The walk of the law package's head: the fixed examples hold. -/
import Derived.Test.YtdkjbdohnpaiaaaMkL1
namespace Go.Proofs.Ytdkjbdohnpaiaaa
open Go.RowKit Go.Shelf
set_option linter.unusedVariables false
theorem own_slice {W : World} {base : Nat} {e : TypeId} {size n : Nat} {v : Value} {xs : List Value} (h : W.ownsRow base e size v n xs) : ∃ A cap, v = .slice A n cap ∧ Sl W W.heap.size size A n xs := by
  rcases h.2 with ⟨h1, h0⟩ | ⟨g, cap, cur, h1, _⟩
  · subst h0
    exact ⟨none, 0, h1, h.1, fun h => absurd h (Nat.lt_irrefl 0)⟩
  · subst h1
    refine ⟨_, cap, rfl, h.1, fun _ => ⟨g, 0, rfl, (h.lt g rfl).2, ?_⟩⟩
    intro j u hu
    obtain ⟨hj, _⟩ := List.getElem?_eq_some_iff.1 hu
    rw [Nat.zero_add]
    exact (h.cellAt j (by have := h.1; omega)).trans hu
theorem root_at (A : Option Addr) (c n : Nat) (ss : List ByteArray) (d : UInt64) (e : Int) (w : World) (hn : ss.length = n) (hd : rootV ss = d) (he : checkE n = e) (hA : Sl w w.heap.size 1 A n (strV ss)) (hs : ∀ s ∈ ss, s.size ≤ 140737488355328) (hl : n ≤ 1100) :
    Calls Try.prog 13 #[.slice A n c] w fun r w' => r = .returned (.tuple #[.int .u64 d.toNat, .int .i64 e]) ∧ Below w.heap.size w w' := by
  subst hn hd he
  exact root_any A c ss w hA hs (by unfold maxLen; omega)
theorem path_at (A : Option Addr) (c n : Nat) (ss : List ByteArray) (i : Int) (p : Forks) (e : Int) (w : World) (hn : ss.length = n) (hp : pathL ss i = p) (he : pathE n i = e) (hA : Sl w w.heap.size 1 A n (strV ss)) (hs : ∀ s ∈ ss, s.size ≤ 140737488355328) (hl : n ≤ 1100) :
    Calls Try.prog 15 #[.slice A n c, .int .i64 i] w fun r w' => ∃ B cap, r = .returned (.tuple #[.slice B p.length cap, .int .i64 e]) ∧ Sl w' w'.heap.size 2 B p.length (forkV p) ∧ Below w.heap.size w w' := by
  subst hn hp he
  refine (path_any A c ss i w hA hs (by unfold maxLen; omega)).mono ?_
  rintro r w' ⟨v, rfl, h, hB⟩
  obtain ⟨B, cap, rfl, hS⟩ := own_slice h
  exact ⟨B, cap, rfl, hS, hB⟩
theorem verify_at (A : Option Addr) (c m : Nat) (root : UInt64) (n i : Int) (s : ByteArray) (p : Forks) (r : Bool) (w : World) (hm : p.length = m) (hr : verifyB root n i s p = r) (hA : Sl w w.heap.size 2 A m (forkV p)) (hs : s.size ≤ 140737488355328) :
    Calls Try.prog 18 #[.int .u64 root.toNat, .int .i64 n, .int .i64 i, .string s, .slice A m c] w fun e w' => e = .returned (.bool r) ∧ Below w.heap.size w w' := by
  subst hm hr
  exact verify_any A c root n i s p w hA hs
theorem sl_cells {W : World} {b : Nat} {cs : Array Value} {t : TypeId} {size n : Nat} {xs : List Value} (hb : W.heap[b]? = some (.cells cs t (0, 0))) (hx : cs.toList = xs) (hn : xs.length = n * size) : Sl W W.heap.size size (some ⟨b, 0, none⟩) n xs := by
  refine ⟨hn, fun _ => ⟨b, 0, rfl, (Array.getElem?_eq_some_iff.1 hb).1, ?_⟩⟩
  intro j u hu
  rw [Nat.zero_add]
  have h1 := World.news_of_block (cs := cs) (t := t) (fr := (0, 0)) hb j u (by rw [hx]; exact hu)
  rwa [Addr.add_lit, Nat.zero_add] at h1
def sA : ByteArray := ⟨#[97]⟩
def sB : ByteArray := ⟨#[98]⟩
def sC : ByteArray := ⟨#[99]⟩
def dA : UInt64 := Mk.leafD [97]
def dB : UInt64 := Mk.leafD [98]
def dC : UInt64 := Mk.leafD [99]
def dAB : UInt64 := Dig.pair dA dB
def dR : UInt64 := Dig.pair dAB dC
theorem hd1 : rootV [sA] = dA := by decide +kernel
theorem hd2 : pathL [sA] 0 = [] := by decide +kernel
theorem hd3 : verifyB dA 1 0 sA [] = true := by decide +kernel
theorem hd4 : verifyB dA 2 0 sA [] = false := by decide +kernel
theorem hd5 : rootV [sA, sB, sC] = dR := by decide +kernel
theorem hd6 : pathL [sA, sB, sC] 2 = [(dAB, true)] := by decide +kernel
theorem hd7 : pathL [sA, sB, sC] 1 = [(dA, true), (dC, false)] := by decide +kernel
theorem hd8 : collO 3 2 sC [(dAB, true)] sC [(dAB, true)] = none := by decide +kernel
theorem hd9 : verifyB dR 3 2 sC [(dAB, true)] = true := by decide +kernel
theorem hd10 : (((dA.toNat : Int)) != (dB.toNat : Int)) = true := by decide +kernel
theorem hd11 : ¬ dA = dB := by decide +kernel
theorem leaf_at (s : ByteArray) (d : UInt64) (w : World) (hd : Mk.leafD s.data.toList = d) (hs : s.size ≤ 140737488355328) : Calls Try.prog 24 #[.string s] w fun e w' => e = .returned (.int .u64 d.toNat) ∧ w = w' := by
  subst hd; exact lleaf_any s w hs
theorem small1 : ∀ s ∈ [sA], s.size ≤ 140737488355328 := by intro s h; simp at h; subst h; decide
theorem small3 : ∀ s ∈ [sA, sB, sC], s.size ≤ 140737488355328 := by intro s h; simp at h; rcases h with rfl | rfl | rfl <;> decide
theorem bgo {w W W' : World} (h : Below w.heap.size w W) (k : Below W.heap.size W W') : Below w.heap.size w W' := h.trans (k.mono h.size)
theorem bal {w W : World} (h : Below w.heap.size w W) (o : Obj) : Below w.heap.size w (W.alloc o) := h.alloc h.size o
theorem Sl.go {W W' : World} {size n : Nat} {A : Option Addr} {xs : List Value} (h : Sl W W.heap.size size A n xs) (k : Below W.heap.size W W') : Sl W' W'.heap.size size A n xs := (h.below k).mono k.size
theorem Sl.al {W : World} {size n : Nat} {A : Option Addr} {xs : List Value} (h : Sl W W.heap.size size A n xs) (o : Obj) : Sl (W.alloc o) (W.alloc o).heap.size size A n xs := h.go (bal (Below.refl _ _) o)
theorem Sl.nil (W : World) (size : Nat) : Sl W W.heap.size size none 0 [] := ⟨by simp, fun h => absurd h (Nat.lt_irrefl 0)⟩
theorem pair_at (a b d : UInt64) (w : World) (hd : Dig.pair a b = d) : Calls Try.prog 23 #[.int .u64 a.toNat, .int .u64 b.toNat] w fun e w' => e = .returned (.int .u64 d.toNat) ∧ Below w.heap.size w w' := by
  subst hd; exact pair_any a b w
theorem same_at (A A' : Option Addr) (c c' n n' : Nat) (p q : Forks) (r : Bool) (w : World) (hn : p.length = n) (hn' : q.length = n') (hr : decide (p = q) = r) (hA : Sl w w.heap.size 2 A n (forkV p)) (hA' : Sl w w.heap.size 2 A' n' (forkV q)) (hp : p.length ≤ 1024) (hq : q.length ≤ 9223372036854775807) :
    Calls Try.prog 17 #[.slice A n c, .slice A' n' c'] w fun e w' => e = .returned (.bool r) ∧ Below w.heap.size w w' := by
  subst hn hn' hr
  exact same_any A A' c c' p q w hA hA' hp hq
theorem coll_at (A A' : Option Addr) (c c' m m' : Nat) (n i : Int) (a : ByteArray) (p : Forks) (b : ByteArray) (q : Forks) (o : Option (ByteArray × ByteArray)) (w : World) (hm : p.length = m) (hm' : q.length = m') (ho : collO n i a p b q = o) (hA : Sl w w.heap.size 2 A m (forkV p)) (hA' : Sl w w.heap.size 2 A' m' (forkV q)) (hs : a.size ≤ 140737488355328) (hs' : b.size ≤ 140737488355328) :
    Calls Try.prog 20 #[.int .i64 n, .int .i64 i, .string a, .slice A m c, .string b, .slice A' m' c'] w fun e w' => e = .returned (collT o) ∧ Below w.heap.size w w' := by
  subst hm hm' ho
  exact collision_any A A' c c' n i a p b q w hA hA' hs hs'
set_option maxRecDepth 100000 in
set_option maxHeartbeats 4000000 in
theorem head_any (w : World) : Calls Try.prog 11 #[] w fun e w' => e = .returned (.bool true) ∧ Below w.heap.size w w' := by
  go_enter Try.func11, Try.ntmps11
  go_wp2_with fail
  refine (leaf_at sA dA _ rfl (by decide)).mono ?_
  rintro e w' ⟨rfl, rfl⟩
  go_wp2_with fail
  refine (leaf_at sB dB _ rfl (by decide)).mono ?_
  rintro e w' ⟨rfl, rfl⟩
  go_wp2_with fail
  refine (leaf_at sC dC _ rfl (by decide)).mono ?_
  rintro e w' ⟨rfl, rfl⟩
  go_wp2_with fail
  refine (root_at _ _ 1 [sA] dA 0 _ rfl hd1 rfl (sl_cells (World.alloc_heap_new _ _) rfl rfl) small1 (by omega)).mono ?_
  rintro e w1 ⟨rfl, hB1⟩
  have hB1' : Below w.heap.size w w1 := ((Below.refl _ _).alloc (Nat.le_refl _) _).trans (hB1.mono (by simp))
  clear hB1
  go_wp2_with fail
  refine (path_at _ _ 1 [sA] 0 [] 0 _ rfl hd2 rfl (sl_cells (World.alloc_heap_new _ _) rfl rfl) small1 (by omega)).mono ?_
  rintro e w2 ⟨B1, cap1, rfl, _, hB2⟩
  have hB2' := bgo (bal hB1' _) hB2
  clear hB2 hB1'
  go_wp2_with fail
  refine (verify_at none 0 0 dA 1 0 sA [] true _ rfl hd3 (Sl.nil _ 2) (by decide)).mono ?_
  rintro e w3 ⟨rfl, hB3⟩
  have hB3' := bgo hB2' hB3
  clear hB3 hB2'
  go_wp2_with fail
  refine (verify_at none 0 0 dA 2 0 sA [] false _ rfl hd4 (Sl.nil _ 2) (by decide)).mono ?_
  rintro e w4 ⟨rfl, hB4⟩
  have hB4' := bgo hB3' hB4
  clear hB4 hB3'
  go_wp2_with fail
  have hl := sl_cells (size := 1) (n := 3) (xs := strV [sA, sB, sC]) (World.alloc_heap_new w4 (.cells #[.string ⟨#[97]⟩, .string ⟨#[98]⟩, .string ⟨#[99]⟩] 9)) rfl rfl
  refine (root_at _ _ 3 [sA, sB, sC] dR 0 _ rfl hd5 rfl hl small3 (by omega)).mono ?_
  rintro e w5 ⟨rfl, hB5⟩
  have hB5' := bgo (bal hB4' _) hB5
  have hl5 := hl.go hB5
  clear hB5 hB4' hl
  go_wp2_with fail
  refine (path_at _ _ 3 [sA, sB, sC] 2 [(dAB, true)] 0 _ rfl hd6 rfl hl5 small3 (by omega)).mono ?_
  rintro e w6 ⟨B6, cap6, rfl, hS6, hB6⟩
  have hB6' := bgo hB5' hB6
  have hl6 := hl5.go hB6
  clear hB6 hB5' hl5
  go_wp2_with fail
  refine (path_at _ _ 3 [sA, sB, sC] 1 [(dA, true), (dC, false)] 0 _ rfl hd7 rfl hl6 small3 (by omega)).mono ?_
  rintro e w7 ⟨B7, cap7, rfl, hS7, hB7⟩
  have hB7' := bgo hB6' hB7
  have hS6' := hS6.go hB7
  clear hB7 hB6' hl6 hS6
  go_wp2_with fail
  refine (pair_at _ _ dAB _ rfl).mono ?_
  rintro e w8 ⟨rfl, hB8⟩
  have hB8' := bgo hB7' hB8
  have hS68 := hS6'.go hB8
  have hS78 := hS7.go hB8
  clear hB8 hB7' hS7 hS6'
  go_wp2_with fail
  refine (pair_at _ _ dR _ rfl).mono ?_
  rintro e w9 ⟨rfl, hB9⟩
  have hB9' := bgo hB8' hB9
  have hS69 := hS68.go hB9
  have hS79 := hS78.go hB9
  clear hB9 hB8' hS68 hS78
  go_wp2_with fail
  have q1 := sl_cells (size := 2) (n := 1) (xs := forkV [(dAB, true)]) (World.alloc_heap_new w9 (.cells #[.int .u64 dAB.toNat, .bool true] 42)) rfl rfl
  refine (same_at _ _ _ _ 1 1 [(dAB, true)] [(dAB, true)] true _ rfl rfl (by simp) (hS69.al _) q1 (by simp) (by simp)).mono ?_
  rintro e w10 ⟨rfl, hB10⟩
  have hB10' := bgo (bal hB9' _) hB10
  have hS6A := (hS69.al _).go hB10
  have hS7A := (hS79.al _).go hB10
  clear hB10 hB9' hS69 hS79 q1
  go_wp2_with fail
  have q2 := sl_cells (size := 2) (n := 2) (xs := forkV [(dA, true), (dC, false)]) (World.alloc_heap_new w10 (.cells #[.int .u64 dA.toNat, .bool true, .int .u64 dC.toNat, .bool false] 42)) rfl rfl
  refine (same_at _ _ _ _ 2 2 [(dA, true), (dC, false)] [(dA, true), (dC, false)] true _ rfl rfl (by simp) (hS7A.al _) q2 (by simp) (by simp)).mono ?_
  rintro e w11 ⟨rfl, hB11⟩
  have hB11' := bgo (bal hB10' _) hB11
  have hS6B := (hS6A.al _).go hB11
  clear hB11 hB10' hS6A hS7A q2
  go_wp2_with fail
  refine (root_at none 0 0 [] 0 1 _ rfl rfl rfl (Sl.nil _ 1) (fun s h => by cases h) (by omega)).mono ?_
  rintro e w12 ⟨rfl, hB12⟩
  have hB12' := bgo hB11' hB12
  have hS6C := hS6B.go hB12
  clear hB12 hB11' hS6B
  go_wp2_with fail
  refine (coll_at _ _ _ _ 1 1 3 2 sC [(dAB, true)] sC [(dAB, true)] none _ rfl rfl hd8 hS6C hS6C (by decide) (by decide)).mono ?_
  rintro e w13 ⟨rfl, hB13⟩
  have hB13' := bgo hB12' hB13
  have hS6D := hS6C.go hB13
  clear hB13 hB12' hS6C
  unfold collT collR
  go_wp2_with fail
  refine (verify_at _ _ 1 dR 3 2 sC [(dAB, true)] true _ rfl hd9 hS6D (by decide)).mono ?_
  rintro e w14 ⟨rfl, hB14⟩
  have hB14' := bgo hB13' hB14
  clear hB14 hB13' hS6D
  have hne := hd10
  go_wp2_with fail
  go_ret
  exact ⟨rfl, hB14'⟩
end Go.Proofs.Ytdkjbdohnpaiaaa
