/- snap's unpacker: an element, by a contract. -/
import Derived.Test.YtpceignbgnekmaaSnD
set_option linter.unusedSimpArgs false
namespace Go.Proofs.Ytpceignbgnekmaa.Sn
open Go.RowKit Go.Proofs.YtpceignbgnekmaaW.PrintWords Go.Proofs.YtpceignbgnekmaaW.PrintLast Go.Proofs.Ytpceignbgnekmaa.By Go.Proofs.Ytpceignbgnekmaa.Md Go.Proofs.Ytpceignbgnekmaa.Cur

def elem_T9 : Bool × List (List Nat × List Nat) := (true, [([], []), ([], []), ([1], [1]), ([2], [2]), ([], []), ([4], [4]), ([5], [5]), ([], []), ([7], [7]), ([8], [8]), ([9], [9]), ([10], [10]), ([6, 11], [6, 11]), ([0, 3, 12, 11], [0, 3, 12])])
def elem_B9 : List Nat := [0, 0, 2, 6, 0, 16, 48, 0, 128, 384, 896, 1920, 4080, 8191]
theorem elem_tab9 : rtab .any (opsOf Try.f48 9) = elem_T9 := by kernel_rfl
theorem elem_bits9 : waitsOk elem_T9.2 elem_B9 = true := by kernel_rfl

def near (size : Int) (s : ByteArray) (σ : St) (v : Nat) : St :=
  let r := tk s σ.2.1 σ.2.2 1
  cp size (σ.1, r.2.1, r.2.2) (4 + (v % 8 : Nat)) ((v / 8 * 256 : Nat) + leN (bytesOf r.1))
def elem (size : Int) (s : ByteArray) (σ : St) (v k : Nat) : St :=
  if k = 0 then lit size s σ v else if k = 1 then near size s σ v else if k = 2 then far size s σ 2 v else far size s σ 4 v

theorem little_one (s : ByteArray) (a : Nat) (f : Int) (N : Nat) (h : leN (bytesOf (tk s a f 1).1) = N) : N ≤ 255 := by
  have hb1 := leN_bound (bytesOf (tk s a f 1).1) (bytes_in _)
  have hrl : (bytesOf (tk s a f 1).1).length ≤ 1 := by
    rw [bytesOf_length]
    rcases tk_len (s := s) (a := a) (f := f) (n := 1) with h1 | ⟨_, h1⟩ <;> omega
  have hp : (256 : Nat) ^ (bytesOf (tk s a f 1).1).length ≤ 256 ^ 1 := Nat.pow_le_pow_right (by decide) hrl
  have h2 : ((256 ^ (bytesOf (tk s a f 1).1).length : Nat) : Int) ≤ ((256 ^ 1 : Nat) : Int) := by exact_mod_cast hp
  have h3 : (256 : Int) ^ (bytesOf (tk s a f 1).1).length ≤ 256 := by simpa using h2
  omega

theorem near_bits (v N : Nat) (hv : v ≤ 63) (hN : N ≤ 255) : bits BinOp.or IntKind.i64 ((v / 8 * 256 : Nat) : Int) (N : Int) = ((v / 8 * 256 + N : Nat) : Int) := by
  rw [bits_join .i64 63 (by decide) (fun n h0 h1 => i64_id h0 h1) 8 _ _ (by omega) (by show ((v / 8 * 256 : Nat) : Int) % 256 = 0; omega) (by show ((v / 8 * 256 : Nat) : Int) < 9223372036854775808; omega) (by omega) (by show (N : Int) < 256; omega) (by show (N : Int) < 9223372036854775808; omega)]
  omega

theorem near_n1 (v : Nat) : wrap64 (4 + (v : Int) % 8) = ((4 + v % 8 : Nat) : Int) := by unfold wrap64; omega
theorem near_n2 (v : Nat) (hv : v ≤ 63) : wrap64 (wrap64 ((v : Int) / 8) * 256) = ((v / 8 * 256 : Nat) : Int) := by
  have : wrap64 ((v : Int) / 8) = ((v / 8 : Nat) : Int) := by unfold wrap64; omega
  rw [this]
  have h8 : v / 8 ≤ 7 := by omega
  generalize v / 8 = q at h8 ⊢
  unfold wrap64
  omega

set_option maxRecDepth 100000 in
set_option maxHeartbeats 4000000 in
theorem elem_calls (B0 : Nat) (w0 w : World) (U R : Nat) (A : Option Addr) (c : Nat) (xs : List Int) (size : Int) (s : ByteArray) (a : Nat) (h : Un B0 w U R A c xs size s a 0) (hb : Below B0 w0 w) (hB : B0 ≤ w.heap.size)
    (hs0 : 0 ≤ size) (hs1 : size ≤ 4294967295) (hl : (xs.length : Int) ≤ size) (ha : a < s.size) (hs : s.size ≤ 140737488351232) (v k : Nat) (hv : v ≤ 63) (hk : k < 4) (hbt : bt s a = ((4 * v + k : Nat) : Int)) :
    Calls Try.prog 48 #[Ptr U] w (Went B0 w0 w U R size s (elem size s (xs, a + 1, 0) v k)) := by
  obtain ⟨b, hb'⟩ : ∃ b : Int, b = ((4 * v + k : Nat) : Int) := ⟨_, rfl⟩
  have hb4 : b / 4 = (v : Int) := by omega
  have hand : bits BinOp.and IntKind.i64 b 3 = (k : Int) := by
    have := bits_mask .i64 63 (by decide) (fun n h0 h1 => i64_id h0 h1) 2 (by decide) b (by omega) (by show b < 9223372036854775808; omega)
    rw [show ((2 : Int) ^ 2 - 1) = 3 by decide] at this
    rw [this]
    show b % 4 = k
    omega
  have hb0 : 0 ≤ b := by omega
  have hb1 : b < 256 := by omega
  have hby : ∀ W, Rd W R s a 0 → Calls Try.prog 39 #[Ptr R] W fun e w' => e = .returned (.int .u8 b) ∧ Rd w' R s (a + 1) 0 ∧ Mod (· = R) W w' := by
    intro W hW
    have := byte_ok W R s a hW ha (by omega)
    rw [hbt, ← hb'] at this
    exact this
  have c0a := fun o => (h.alloc o).c0
  have H := Aside0.mk h
  have HBl := Aside0.mk hb
  have HBY := Aside0.mk hby
  clear h hb hby hbt hb'
  obtain rfl | rfl | rfl | rfl : k = 0 ∨ k = 1 ∨ k = 2 ∨ k = 3 := by omega
  all_goals
    go_enter Try.func48, Try.ntmps48
    go_wp2_with fail
    refine (HBY.out _ (H.out.alloc _).rd).mono ?_
    rintro e w1 ⟨rfl, hr1, hm1⟩
    have H1 := Aside0.mk ((H.out.alloc _).reader hm1 hr1)
    have HB1 := Aside0.mk (hm1.below (HBl.out.alloc hB _) (Nat.le_trans hB (by simp)) (by rintro i rfl; exact H.out.hR))
    have hB1 : B0 ≤ w1.heap.size := Nat.le_trans (Nat.le_trans hB (by simp)) hm1.size
    have b1u := hm1.blk (blk_new w _) (by have := blk_lt H.out.rd; omega)
    have hz1 : w.heap.size ≤ w1.heap.size := Nat.le_trans (by simp) hm1.size
    clear hr1 hm1 c0a
    obtain ⟨bu, hbu⟩ : ∃ bu, w.heap.size = bu := ⟨_, rfl⟩
    rw [hbu] at b1u ⊢
    have hcu : ∀ o, (w1.alloc o).cell? ⟨bu, 0, none⟩ = some (Ptr U) := fun o => blk_at_cells (blk_alloc b1u o) rfl
    have HX : Aside0 (B0 ≤ (w1.alloc (.cells #[.int .i64 v] 3)).heap.size ∧ w.heap.size ≤ (w1.alloc (.cells #[.int .i64 v] 3)).heap.size) := ⟨Nat.le_trans hB1 (by simp), Nat.le_trans hz1 (by simp)⟩
    clear hbu
    go_wp2_with fail
  · refine (lit_calls B0 w0 _ U R A c xs size s (a + 1) 0 v (H1.out.alloc _) (HB1.out.alloc hB1 _) HX.out.1 hs0 hs1 hl (by omega) hs (by omega) (by omega)).mono ?_
    rintro e w4 ⟨rfl, A2, c2, hu2, hb2, hz2⟩
    clear hcu
    go_wp2_with fail
    go_end0
    exact ⟨rfl, A2, c2, hu2, hb2, Nat.le_trans HX.out.2 hz2⟩
  · have b2u := blk_drew (blk_alloc b1u (.cells #[.int .i64 v] 3))
    have b2v := blk_drew (blk_new w1 (.cells #[.int .i64 v] 3))
    have H2 := Aside0.mk (H1.out.alloc (.cells #[.int .i64 v] 3)).drew
    have HB2 := Aside0.mk (HB1.out.alloc hB1 (.cells #[.int .i64 v] 3)).drew
    have hB2 : B0 ≤ ((w1.alloc (.cells #[.int .i64 v] 3)).drew).heap.size := HX.out.1
    have hz2 : w.heap.size ≤ ((w1.alloc (.cells #[.int .i64 v] 3)).drew).heap.size := HX.out.2
    obtain ⟨bv, hbv⟩ : ∃ bv, w1.heap.size = bv := ⟨_, rfl⟩
    rw [hbv] at b2v ⊢
    generalize hw2 : (w1.alloc (.cells #[.int .i64 v] 3)).drew = w2 at b2u b2v H2 HB2 hB2 hz2
    have hnu : ¬ bu = R := blk_ne b2u H2.out.rd (by decide)
    have hnv : ¬ bv = R := blk_ne b2v H2.out.rd (by decide)
    have hli := little_calls w2 R s (a + 1) 0 1 H2.out.rd (by omega) (by omega) (by omega)
    obtain ⟨N, hN', hN1⟩ := little_facts s (a + 1) 0 1 (by omega)
    have hN : leN (bytesOf (tk s (a + 1) 0 1).1) = N := hN'
    have hN8 : N ≤ 255 := little_one s (a + 1) 0 N hN
    obtain ⟨r1, a1, f1, ht1⟩ : ∃ r1 a1 f1, tk s (a + 1) 0 1 = (r1, a1, f1) := ⟨_, _, _, rfl⟩
    have e1 : elem size s (xs, a + 1, 0) v 1 = cp size (xs, a1, f1) ((4 + v % 8 : Nat) : Int) ((v / 8 * 256 + N : Nat) : Int) := by
      rw [ht1] at hN
      simp only [elem, near, ht1, if_neg (show ¬ (1 : Nat) = 0 by omega), if_true]
      rw [hN, Int.natCast_add, Int.natCast_add]
      rfl
    rw [e1]
    have hli' : Calls Try.prog 60 #[Ptr R, .int .i64 1] w2 fun e w' => e = .returned (.int .i64 N) ∧ Rd w' R s a1 f1 ∧ Mod (· = R) w2 w' := by
      rw [ht1] at hN
      have h1 := hli
      rw [show ((1 : Nat) : Int) = 1 from rfl, ht1] at h1
      dsimp only at h1 hN
      rw [hN] at h1
      exact h1
    obtain ⟨N1, hN1e⟩ : ∃ N1, ((4 + v % 8 : Nat) : Int) = N1 := ⟨_, rfl⟩
    obtain ⟨N2, hN2e⟩ : ∃ N2, ((v / 8 * 256 + N : Nat) : Int) = N2 := ⟨_, rfl⟩
    have hcp : ∀ W, Un B0 W U R A c xs size s a1 f1 → Below B0 w0 W → B0 ≤ W.heap.size → Calls Try.prog 59 #[Ptr U, .int .i64 N1, .int .i64 N2] W (Went B0 w0 W U R size s (cp size (xs, a1, f1) N1 N2)) := by
      intro W hW hbW hBW
      rw [← hN1e, ← hN2e]
      exact cp_calls B0 w0 W U R A c xs size s a1 f1 (4 + v % 8) (v / 8 * 256 + N) hW hbW hBW hs0 hs1 hl (by omega) (by omega)
    rw [hN1e, hN2e]
    have HLI := Aside0.mk hli'
    have HCP := Aside0.mk hcp
    clear hli hli' hcp hN hN' ht1 e1 hcu HX
    have n1 : wrap64 (4 + (v : Int) % 8) = N1 := by rw [← hN1e, near_n1 v]
    have n2 : Aside0 (bits BinOp.or IntKind.i64 (wrap64 (wrap64 ((v : Int) / 8) * 256)) (N : Int) = N2) := ⟨by
      rw [← hN2e, near_n2 v hv, near_bits v N hv hN8]⟩
    go_wp2_with fail
    refine start_ (n := 14) (S := fun w' => w'.cell? ⟨bu, 0, none⟩ = some (Ptr U) ∧ w'.cell? ⟨bv, 0, none⟩ = some (.int .i64 v) ∧ w'.cell? ⟨U, 0, none⟩ = some (Ptr R)) (ds := [13]) #[false, false, false, false, false, false, false, false, false, false, false, false, false, false] (by kernel_rfl) rfl rfl (by rw [hw2]; exact ⟨blk_at_cells b2u rfl, blk_at_cells b2v rfl, H2.out.c0⟩) (fun hHeld => ?_); refine with_tabW elem_tab9 elem_bits9 (fun HT_ HW_ => ?_)
    rw [hw2] at hHeld ⊢
    refine take_ (i := 0) (N := some 25) (v := ?_) (a' := ?_) #[true, false, false, false, false, false, false, false, false, false, false, false, false, false] rfl rfl (take_ofW HT_.out HW_.out (by kernel_rfl)) (fun _ _ _ h => h) (Or.inl ⟨by rfl, ?_⟩) hHeld ?_ ?_
    rotate_left
    · rintro w' ⟨s0, s1, s2⟩
      go_simp
      with_reducible rfl
    rotate_left
    · simp only [Act.put, List.setIfInBounds_toArray, List.set_cons_zero, List.set_cons_succ, i64_w, i32_w]
      rfl
    refine take_ (i := 1) (N := some 26) (v := ?_) (a' := ?_) #[true, true, false, false, false, false, false, false, false, false, false, false, false, false] rfl rfl (take_ofW HT_.out HW_.out (by kernel_rfl)) (fun _ _ _ h => h) (Or.inl ⟨by rfl, ?_⟩) hHeld ?_ ?_
    rotate_left
    · rintro w' ⟨s0, s1, s2⟩
      go_simp
      with_reducible rfl
    rotate_left
    · simp only [Act.put, List.setIfInBounds_toArray, List.set_cons_zero, List.set_cons_succ, i64_w, i32_w]
      rfl
    refine pure_ (i := 2) (N := some 27) (v := ?_) (a' := ?_) #[true, true, true, false, false, false, false, false, false, false, false, false, false, false] rfl rfl (any_of HT_.out (by kernel_rfl)) (fun _ _ _ h => h) (Or.inl ⟨by rfl, ?_⟩) ?_ ?_
    rotate_left
    · intro w'
      go_simp
      with_reducible rfl
    rotate_left
    · simp only [Act.put, List.setIfInBounds_toArray, List.set_cons_zero, List.set_cons_succ, i64_w, i32_w]
      rfl
    refine pure_ (i := 3) (N := some 28) (v := ?_) (a' := ?_) #[true, true, true, true, false, false, false, false, false, false, false, false, false, false] rfl rfl (any_of HT_.out (by kernel_rfl)) (fun _ _ _ h => h) (Or.inl ⟨by rfl, ?_⟩) ?_ ?_
    rotate_left
    · intro w'
      go_simp
      with_reducible rfl
    rotate_left
    · simp only [Act.put, List.setIfInBounds_toArray, List.set_cons_zero, List.set_cons_succ, i64_w, i32_w]
      rfl
    refine take_ (i := 4) (N := some 29) (v := ?_) (a' := ?_) #[true, true, true, true, true, false, false, false, false, false, false, false, false, false] rfl rfl (take_ofW HT_.out HW_.out (by kernel_rfl)) (fun _ _ _ h => h) (Or.inl ⟨by rfl, ?_⟩) hHeld ?_ ?_
    rotate_left
    · rintro w' ⟨s0, s1, s2⟩
      go_simp
      with_reducible rfl
    rotate_left
    · simp only [Act.put, List.setIfInBounds_toArray, List.set_cons_zero, List.set_cons_succ, i64_w, i32_w]
      rfl
    refine pure_ (i := 5) (N := some 30) (v := ?_) (a' := ?_) #[true, true, true, true, true, true, false, false, false, false, false, false, false, false] rfl rfl (any_of HT_.out (by kernel_rfl)) (fun _ _ _ h => h) (Or.inl ⟨by rfl, ?_⟩) ?_ ?_
    rotate_left
    · intro w'
      go_simp
      with_reducible rfl
    rotate_left
    · simp only [Act.put, List.setIfInBounds_toArray, List.set_cons_zero, List.set_cons_succ, i64_w, i32_w]
      rfl
    refine pure_ (i := 6) (N := some 31) (v := ?_) (a' := ?_) #[true, true, true, true, true, true, true, false, false, false, false, false, false, false] rfl rfl (any_of HT_.out (by kernel_rfl)) (fun _ _ _ h => h) (Or.inl ⟨by rfl, ?_⟩) ?_ ?_
    rotate_left
    · intro w'
      go_simp
      with_reducible rfl
    rotate_left
    · simp only [Act.put, List.setIfInBounds_toArray, List.set_cons_zero, List.set_cons_succ, i64_w, i32_w]
      rfl
    refine take_ (i := 7) (N := some 32) (v := ?_) (a' := ?_) #[true, true, true, true, true, true, true, true, false, false, false, false, false, false] rfl rfl (take_ofW HT_.out HW_.out (by kernel_rfl)) (fun _ _ _ h => h) (Or.inl ⟨by rfl, ?_⟩) hHeld ?_ ?_
    rotate_left
    · rintro w' ⟨s0, s1, s2⟩
      go_simp
      with_reducible rfl
    rotate_left
    · simp only [Act.put, List.setIfInBounds_toArray, List.set_cons_zero, List.set_cons_succ, i64_w, i32_w]
      rfl
    refine pure_ (i := 8) (N := some 33) (v := ?_) (a' := ?_) #[true, true, true, true, true, true, true, true, true, false, false, false, false, false] rfl rfl (any_of HT_.out (by kernel_rfl)) (fun _ _ _ h => h) (Or.inl ⟨by rfl, ?_⟩) ?_ ?_
    rotate_left
    · intro w'
      go_simp
      with_reducible rfl
    rotate_left
    · simp only [Act.put, List.setIfInBounds_toArray, List.set_cons_zero, List.set_cons_succ, i64_w, i32_w]
      rfl
    refine pure_ (i := 9) (N := some 34) (v := ?_) (a' := ?_) #[true, true, true, true, true, true, true, true, true, true, false, false, false, false] rfl rfl (any_of HT_.out (by kernel_rfl)) (fun _ _ _ h => h) (Or.inl ⟨by rfl, ?_⟩) ?_ ?_
    rotate_left
    · intro w'
      go_simp
      with_reducible rfl
    rotate_left
    · simp only [Act.put, List.setIfInBounds_toArray, List.set_cons_zero, List.set_cons_succ, i64_w, i32_w]
      rfl
    refine take_ (i := 10) (N := some 35) (v := ?_) (a' := ?_) #[true, true, true, true, true, true, true, true, true, true, true, false, false, false] rfl rfl (take_ofW HT_.out HW_.out (by kernel_rfl)) (fun _ _ _ h => h) (Or.inl ⟨by rfl, ?_⟩) hHeld ?_ ?_
    rotate_left
    · rintro w' ⟨s0, s1, s2⟩
      go_simp
      with_reducible rfl
    rotate_left
    · simp only [Act.put, List.setIfInBounds_toArray, List.set_cons_zero, List.set_cons_succ, i64_w, i32_w]
      rfl
    refine one_ (i := 11) (N := some 36) #[true, true, true, true, true, true, true, true, true, true, true, true, false, false] rfl rfl (one_of HT_.out (by kernel_rfl)) (by decide) (fun K hK => ?_)
    refine goes_ Try.func60 (by kernel_rfl) rfl #[Ptr R, .int .i64 1] (by rfl) rfl rfl (by simp only [List.map_toArray, List.map_cons, List.map_nil]; rfl) ?_
    refine HLI.out.mono ?_
    rintro e w3 ⟨rfl, hr3, hm3⟩
    have H3 := Aside0.mk (H2.out.reader hm3 hr3)
    have HB3 := Aside0.mk (hm3.below HB2.out hB2 (by rintro i rfl; exact H2.out.hR))
    have hB3 : B0 ≤ w3.heap.size := Nat.le_trans hB2 hm3.size
    have hz3 := hm3.size
    have b3u := hm3.blk b2u hnu
    have b3v := hm3.blk b2v hnv
    clear hr3 hm3
    refine ⟨_, rfl, ?_⟩
    refine hK.out _ _ ⟨blk_at_cells b3u rfl, blk_at_cells b3v rfl, H3.out.c0⟩ (fun hHeld => ?_)
    clear hK K
    refine norm_ (a' := ?_) ?_ ?_
    rotate_left
    · show Act.put _ (some 36) _ = _
      simp only [Act.put, List.setIfInBounds_toArray, List.set_cons_zero, List.set_cons_succ, i64_w, i32_w]
      rfl
    refine pure_ (i := 12) (N := some 37) (v := ?_) (a' := ?_) #[true, true, true, true, true, true, true, true, true, true, true, true, true, false] rfl rfl (any_of HT_.out (by kernel_rfl)) (fun _ _ _ h => h) (Or.inl ⟨by rfl, ?_⟩) ?_ ?_
    rotate_left
    · intro w'
      go_simp
      with_reducible rfl
    rotate_left
    · simp only [Act.put, List.setIfInBounds_toArray, List.set_cons_zero, List.set_cons_succ, i64_w, i32_w]
      rfl
    refine last_ (i := 13) (N := some 38) #[true, true, true, true, true, true, true, true, true, true, true, true, true, true] rfl rfl (one_of HT_.out (by kernel_rfl)) (by decide) (fun K hK => ?_)
    refine goes_ Try.func59 (by kernel_rfl) rfl #[Ptr U, .int .i64 (wrap64 (4 + (v : Int) % 8)), .int .i64 (bits BinOp.or IntKind.i64 (wrap64 (wrap64 ((v : Int) / 8) * 256)) (N : Int))] (by rfl) rfl rfl (by simp only [List.map_toArray, List.map_cons, List.map_nil]; rfl) ?_
    rw [n1, n2.out]
    refine (HCP.out w3 H3.out HB3.out hB3).mono ?_
    rintro e w4 ⟨rfl, A2, c2, hu2, hb2, hz4⟩
    refine ⟨_, rfl, ?_⟩
    refine hK.out _ _ ?_
    clear hK K
    refine done_ (done_of HT_.out (by kernel_rfl)) ?_
    go_wp2_with fail
    go_end0
    exact ⟨rfl, A2, c2, hu2, hb2, Nat.le_trans hz2 (Nat.le_trans hz3 hz4)⟩
  all_goals
    have b2u := blk_alloc b1u (.cells #[.int .i64 v] 3)
    have b2v := blk_new w1 (.cells #[.int .i64 v] 3)
    have H2 := Aside0.mk (H1.out.alloc (.cells #[.int .i64 v] 3))
    have HB2 := Aside0.mk (HB1.out.alloc hB1 (.cells #[.int .i64 v] 3))
  · refine (far_calls B0 w0 _ U R A c xs size s (a + 1) 0 H2.out HB2.out HX.out.1 hs0 hs1 hl (by omega) hs 2 v bu w1.heap.size (by omega) hv b2u b2v).mono ?_
    rintro e w4 ⟨rfl, A2, c2, hu2, hb2, hz2⟩
    clear hcu
    go_wp2_with fail
    go_end0
    exact ⟨rfl, A2, c2, hu2, hb2, Nat.le_trans HX.out.2 hz2⟩
  · refine (far_calls B0 w0 _ U R A c xs size s (a + 1) 0 H2.out HB2.out HX.out.1 hs0 hs1 hl (by omega) hs 4 v bu w1.heap.size (by omega) hv b2u b2v).mono ?_
    rintro e w4 ⟨rfl, A2, c2, hu2, hb2, hz2⟩
    clear hcu
    go_wp2_with fail
    go_end0
    exact ⟨rfl, A2, c2, hu2, hb2, Nat.le_trans HX.out.2 hz2⟩
end Go.Proofs.Ytpceignbgnekmaa.Sn
