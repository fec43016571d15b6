/- snap's unpacker: the closure, by a contract. -/
import Derived.Test.YtpceignbgnekmaaSnC
import Derived.Test.YtpceignbgnekmaaWTab
set_option linter.unusedSimpArgs false
namespace Go.Proofs.Ytpceignbgnekmaa.Sn
open Go.RowKit Go.Proofs.YtpceignbgnekmaaW.PrintWords Go.Proofs.YtpceignbgnekmaaW.PrintLast Go.Proofs.Ytpceignbgnekmaa.By Go.Proofs.Ytpceignbgnekmaa.Md Go.Proofs.Ytpceignbgnekmaa.Cur

def far_T0 : Bool × List (List Nat × List Nat) := (true, [([], []), ([], []), ([1], [1]), ([], []), ([3], [3]), ([4], [4]), ([5], [5]), ([], []), ([6, 7], [6, 7]), ([0, 2, 8, 8], [0, 2, 8])])
def far_B0 : List Nat := [0, 0, 2, 0, 8, 24, 56, 0, 248, 511]
theorem far_tab0 : rtab .any (opsOf Try.f58 0) = far_T0 := by kernel_rfl
theorem far_bits0 : waitsOk far_T0.2 far_B0 = true := by kernel_rfl

theorem little_facts (s : ByteArray) (a : Nat) (f : Int) (n : Nat) (hn : n ≤ 4) : ∃ N : Nat, leN (bytesOf (tk s a f n).1) = N ∧ N ≤ 4294967295 := by
  have hb1 := leN_bound (bytesOf (tk s a f n).1) (bytes_in _)
  have hrl : (bytesOf (tk s a f n).1).length ≤ 4 := by
    rw [bytesOf_length]
    rcases tk_len (s := s) (a := a) (f := f) (n := (n : Int)) with h1 | ⟨_, h1⟩ <;> omega
  have hp4 : (256 : Int) ^ (bytesOf (tk s a f n).1).length ≤ 4294967296 := by
    have : (256 : Nat) ^ (bytesOf (tk s a f n).1).length ≤ 256 ^ 4 := Nat.pow_le_pow_right (by decide) hrl
    have h2 : ((256 ^ (bytesOf (tk s a f n).1).length : Nat) : Int) ≤ ((256 ^ 4 : Nat) : Int) := by exact_mod_cast this
    simpa using h2
  obtain ⟨N, hN⟩ := Int.eq_ofNat_of_zero_le hb1.1
  exact ⟨N, hN, by omega⟩

def far (size : Int) (s : ByteArray) (σ : St) (n : Nat) (v : Int) : St :=
  let r := tk s σ.2.1 σ.2.2 n
  cp size (σ.1, r.2.1, r.2.2) (v + 1) (leN (bytesOf r.1))

set_option maxRecDepth 100000 in
set_option maxHeartbeats 4000000 in
theorem far_calls (B0 : Nat) (w0 w : World) (U R : Nat) (A : Option Addr) (c : Nat) (xs : List Int) (size : Int) (s : ByteArray) (a : Nat) (f : Int) (h : Un B0 w U R A c xs size s a f) (hb : Below B0 w0 w) (hB : B0 ≤ w.heap.size)
    (hs0 : 0 ≤ size) (hs1 : size ≤ 4294967295) (hl : (xs.length : Int) ≤ size) (ha : a ≤ s.size) (hs : s.size ≤ 140737488351232) (n v bu bv : Nat) (hn : n ≤ 4) (hv : v ≤ 63)
    (hbu : w.heap[bu]? = some (.cells #[Ptr U] 71 (0, 0))) (hbv : w.heap[bv]? = some (.cells #[.int .i64 v] 3 (0, 0))) :
    Calls Try.prog 58 #[.int .i64 n, Ptr bu, Ptr bv] w (Went B0 w0 w U R size s (far size s (xs, a, f) n v)) := by
  have hnu : ¬ bu = R := blk_ne hbu h.rd (by decide)
  have hnv : ¬ bv = R := blk_ne hbv h.rd (by decide)
  have hli := little_calls w.drew R s a f n h.drew.rd ha (by omega) hn
  obtain ⟨N, hN, hN1⟩ := little_facts s a f n hn
  obtain ⟨r1, a1, f1, ht1⟩ : ∃ r1 a1 f1, tk s a f n = (r1, a1, f1) := ⟨_, _, _, rfl⟩
  have e1 : far size s (xs, a, f) n v = cp size (xs, a1, f1) ((v + 1 : Nat) : Int) N := by
    rw [ht1] at hN
    simp only [far, ht1]
    rw [hN, Int.natCast_add]
    rfl
  rw [e1]
  rw [hN] at hli
  rw [ht1] at hli
  have hcp : ∀ W, Un B0 W U R A c xs size s a1 f1 → Below B0 w0 W → B0 ≤ W.heap.size → Calls Try.prog 59 #[Ptr U, .int .i64 ((v + 1 : Nat) : Int), .int .i64 (N : Int)] W (Went B0 w0 W U R size s (cp size (xs, a1, f1) ((v + 1 : Nat) : Int) N)) :=
    fun W hW hbW hBW => cp_calls B0 w0 W U R A c xs size s a1 f1 (v + 1) N hW hbW hBW hs0 hs1 hl (by omega) (by omega)
  have hv1 : wrap64 ((v : Int) + 1) = ((v + 1 : Nat) : Int) := by unfold wrap64; omega
  have HLI := Aside0.mk hli
  have HCP := Aside0.mk hcp
  have HBl := Aside0.mk hb.drew
  have H := Aside0.mk h.drew
  clear h hb hli hcp hN ht1 e1
  go_enter Try.func58, Try.ntmps58
  go_wp2_with fail
  refine start_ (n := 10) (S := fun w' => w'.cell? ⟨bu, 0, none⟩ = some (Ptr U) ∧ w'.cell? ⟨bv, 0, none⟩ = some (.int .i64 v) ∧ w'.cell? ⟨U, 0, none⟩ = some (Ptr R)) (ds := [9]) #[false, false, false, false, false, false, false, false, false, false] (by kernel_rfl) rfl rfl ⟨blk_at_cells hbu rfl, blk_at_cells hbv rfl, H.out.c0⟩ (fun hHeld => ?_); refine with_tabW far_tab0 far_bits0 (fun HT_ HW_ => ?_)
  refine take_ (i := 0) (N := some 4) (v := ?_) (a' := ?_) #[true, false, false, false, false, false, false, false, false, false] rfl rfl (take_ofW HT_.out HW_.out (by kernel_rfl)) (fun _ _ _ h => h) (Or.inl ⟨by rfl, ?_⟩) hHeld ?_ ?_
  rotate_left
  · rintro w' ⟨s0, s1, s2⟩
    go_simp
    with_reducible rfl
  rotate_left
  · simp only [Act.put, List.setIfInBounds_toArray, List.set_cons_zero, List.set_cons_succ, i64_w, i32_w]
    rfl
  refine take_ (i := 1) (N := some 5) (v := ?_) (a' := ?_) #[true, true, false, false, false, false, false, false, false, false] rfl rfl (take_ofW HT_.out HW_.out (by kernel_rfl)) (fun _ _ _ h => h) (Or.inl ⟨by rfl, ?_⟩) hHeld ?_ ?_
  rotate_left
  · rintro w' ⟨s0, s1, s2⟩
    go_simp
    with_reducible rfl
  rotate_left
  · simp only [Act.put, List.setIfInBounds_toArray, List.set_cons_zero, List.set_cons_succ, i64_w, i32_w]
    rfl
  refine pure_ (i := 2) (N := some 6) (v := ?_) (a' := ?_) #[true, true, true, false, false, false, false, false, false, false] rfl rfl (any_of HT_.out (by kernel_rfl)) (fun _ _ _ h => h) (Or.inl ⟨by rfl, ?_⟩) ?_ ?_
  rotate_left
  · intro w'
    go_simp
    with_reducible rfl
  rotate_left
  · simp only [Act.put, List.setIfInBounds_toArray, List.set_cons_zero, List.set_cons_succ, i64_w, i32_w]
    rfl
  refine take_ (i := 3) (N := some 7) (v := ?_) (a' := ?_) #[true, true, true, true, false, false, false, false, false, false] rfl rfl (take_ofW HT_.out HW_.out (by kernel_rfl)) (fun _ _ _ h => h) (Or.inl ⟨by rfl, ?_⟩) hHeld ?_ ?_
  rotate_left
  · rintro w' ⟨s0, s1, s2⟩
    go_simp
    with_reducible rfl
  rotate_left
  · simp only [Act.put, List.setIfInBounds_toArray, List.set_cons_zero, List.set_cons_succ, i64_w, i32_w]
    rfl
  refine pure_ (i := 4) (N := some 8) (v := ?_) (a' := ?_) #[true, true, true, true, true, false, false, false, false, false] rfl rfl (any_of HT_.out (by kernel_rfl)) (fun _ _ _ h => h) (Or.inl ⟨by rfl, ?_⟩) ?_ ?_
  rotate_left
  · intro w'
    go_simp
    with_reducible rfl
  rotate_left
  · simp only [Act.put, List.setIfInBounds_toArray, List.set_cons_zero, List.set_cons_succ, i64_w, i32_w]
    rfl
  refine pure_ (i := 5) (N := some 9) (v := ?_) (a' := ?_) #[true, true, true, true, true, true, false, false, false, false] rfl rfl (any_of HT_.out (by kernel_rfl)) (fun _ _ _ h => h) (Or.inl ⟨by rfl, ?_⟩) ?_ ?_
  rotate_left
  · intro w'
    go_simp
    with_reducible rfl
  rotate_left
  · simp only [Act.put, List.setIfInBounds_toArray, List.set_cons_zero, List.set_cons_succ, i64_w, i32_w]
    rfl
  refine take_ (i := 6) (N := some 10) (v := ?_) (a' := ?_) #[true, true, true, true, true, true, true, false, false, false] rfl rfl (take_ofW HT_.out HW_.out (by kernel_rfl)) (fun _ _ _ h => h) (Or.inl ⟨by rfl, ?_⟩) hHeld ?_ ?_
  rotate_left
  · rintro w' ⟨s0, s1, s2⟩
    go_simp
    with_reducible rfl
  rotate_left
  · simp only [Act.put, List.setIfInBounds_toArray, List.set_cons_zero, List.set_cons_succ, i64_w, i32_w]
    rfl
  refine pure_ (i := 7) (N := some 11) (v := ?_) (a' := ?_) #[true, true, true, true, true, true, true, true, false, false] rfl rfl (any_of HT_.out (by kernel_rfl)) (fun _ _ _ h => h) (Or.inl ⟨by rfl, ?_⟩) ?_ ?_
  rotate_left
  · intro w'
    go_simp
    with_reducible rfl
  rotate_left
  · simp only [Act.put, List.setIfInBounds_toArray, List.set_cons_zero, List.set_cons_succ, i64_w, i32_w]
    rfl
  refine one_ (i := 8) (N := some 12) #[true, true, true, true, true, true, true, true, true, false] rfl rfl (one_of HT_.out (by kernel_rfl)) (by decide) (fun K hK => ?_)
  refine goes_ Try.func60 (by kernel_rfl) rfl #[Ptr R, .int .i64 n] (by rfl) rfl rfl (by simp only [List.map_toArray, List.map_cons, List.map_nil]; rfl) ?_
  refine HLI.out.mono ?_
  rintro e w1 ⟨rfl, hr1, hm1⟩
  have H1 := Aside0.mk (H.out.reader hm1 hr1)
  have HB1 := Aside0.mk (hm1.below HBl.out hB (by rintro i rfl; exact H.out.hR))
  have hB1 : B0 ≤ w1.heap.size := Nat.le_trans hB hm1.size
  have hz1 := hm1.size
  have b1u := hm1.blk hbu hnu
  have b1v := hm1.blk hbv hnv
  clear hr1 hm1
  refine ⟨_, rfl, ?_⟩
  refine hK.out _ _ ⟨blk_at_cells b1u rfl, blk_at_cells b1v rfl, H1.out.c0⟩ (fun hHeld => ?_)
  clear hK K
  refine norm_ (a' := ?_) ?_ ?_
  rotate_left
  · show Act.put _ (some 12) _ = _
    simp only [Act.put, List.setIfInBounds_toArray, List.set_cons_zero, List.set_cons_succ, i64_w, i32_w]
    rfl
  refine last_ (i := 9) (N := some 13) #[true, true, true, true, true, true, true, true, true, true] rfl rfl (one_of HT_.out (by kernel_rfl)) (by decide) (fun K hK => ?_)
  refine goes_ Try.func59 (by kernel_rfl) rfl #[Ptr U, .int .i64 (wrap64 ((v : Int) + 1)), .int .i64 (N : Int)] (by rfl) rfl rfl (by simp only [List.map_toArray, List.map_cons, List.map_nil]; rfl) ?_
  rw [hv1]
  refine (HCP.out w1 H1.out HB1.out hB1).mono ?_
  rintro e w2 ⟨rfl, A2, c2, hu2, hb2, hz2⟩
  refine ⟨_, rfl, ?_⟩
  refine hK.out _ _ ?_
  clear hK K
  refine done_ (done_of HT_.out (by kernel_rfl)) ?_
  go_wp2_with fail
  go_end0
  exact ⟨rfl, A2, c2, hu2, hb2, Nat.le_trans hz1 hz2⟩
end Go.Proofs.Ytpceignbgnekmaa.Sn
