/- The walks of layer 3's statements. -/
import Derived.Test.YtpceignbgnekmaaLeb
namespace Go.Proofs.Ytpceignbgnekmaa.LebLaws
open Go.RowKit Go.Proofs.YtpceignbgnekmaaW.PrintWords Go.Proofs.Ytpceignbgnekmaa.By Go.Proofs.Ytpceignbgnekmaa.Next Go.Proofs.Ytpceignbgnekmaa.Leb

set_option maxRecDepth 100000 in
set_option maxHeartbeats 1000000 in
theorem alive (w : World) : Calls Try.prog 14 #[] w fun e w' => e = .returned (.bool true) ∧ Below w.heap.size w w' := by
  have HB := Aside0.mk (Below.refl w.heap.size w)
  go_enter Try.func14, Try.ntmps14
  go_wp2_with fail
  refine (Next.calls ⟨#[128, 0]⟩ (by decide) _).mono ?_
  rintro e w1 ⟨he, hb⟩
  obtain rfl : e = .returned (.tuple #[.int .u64 0, .int .i64 0, .int .i64 3]) := he
  have HB1 := Aside0.mk (below_step HB.out hb)
  clear hb HB
  go_wp2_with fail
  refine (Next.calls ⟨#[128]⟩ (by decide) _).mono ?_
  rintro e w2 ⟨he, hb⟩
  obtain rfl : e = .returned (.tuple #[.int .u64 0, .int .i64 0, .int .i64 2]) := he
  have HB2 := Aside0.mk (below_step HB1.out hb)
  clear hb HB1
  go_wp2_with fail
  refine (put_calls 300 (by decide) (by decide) _).mono ?_
  rintro e w3 ⟨he, hb⟩
  obtain rfl : e = .returned (.string ⟨#[172, 2]⟩) := he
  have HB3 := Aside0.mk (below_step HB2.out hb)
  clear hb HB2
  go_wp2_with fail
  go_ret
  exact ⟨rfl, HB3.out⟩

set_option maxRecDepth 100000 in
set_option maxHeartbeats 1000000 in
theorem reads (s : ByteArray) (hs : s.size ≤ 140737488351232) (w : World) : Calls Try.prog 3 #[.string s] w fun e w' => e = .returned (.bool true) ∧ Below w.heap.size w w' := by
  have HB := Aside0.mk (Below.refl w.heap.size w)
  by_cases h200 : 200 < s.size
  · have hb200 : decide (200 < (s.size : Int)) = true := decide_eq_true (by omega)
    go_enter Try.func3, Try.ntmps3
    go_wp2_with fail
    refine (alive _).mono ?_
    rintro e w1 ⟨rfl, hb⟩
    have HB1 := Aside0.mk (below_step HB.out hb)
    clear hb HB
    go_wp2_with fail
    go_ret
    exact ⟨rfl, HB1.out⟩
  · have hb200 : decide (200 < (s.size : Int)) = false := decide_eq_false (by omega)
    obtain ⟨n, z, c, hr⟩ : ∃ n z c, nx s (s.size + 1) 0 0 = (n, z, c) := ⟨_, _, _, rfl⟩
    have h1 := Next.calls s hs
    have h2 := ref_calls s hs
    rw [hr] at h1 h2
    have H1 := Aside0.mk h1
    have H2 := Aside0.mk h2
    have HR := Aside0.mk hr
    clear h1 h2 hr
    go_enter Try.func3, Try.ntmps3
    go_wp2_with fail
    refine (alive _).mono ?_
    rintro e w1 ⟨rfl, hb⟩
    have HB1 := Aside0.mk (below_step HB.out hb)
    clear hb HB
    go_wp2_with fail
    refine (H1.out _).mono ?_
    rintro e w2 ⟨he, hb⟩
    obtain rfl : e = .returned (.tuple #[.int .u64 n, .int .i64 z, .int .i64 c]) := he
    have HB2 := Aside0.mk (below_step HB1.out hb)
    clear hb HB1
    go_wp2_with fail
    refine (H2.out _).mono ?_
    rintro e w3 ⟨he, hb⟩
    obtain rfl : e = .returned (.tuple #[.int .u64 n, .int .i64 z, .int .i64 c]) := he
    have HB3 := Aside0.mk (below_step HB2.out hb)
    clear hb HB2
    have n1 : (n != n) = false := by simp
    have n2 : (z != z) = false := by simp
    have n3 : (c != c) = false := by simp
    by_cases hc : c = 0
    · subst hc
      obtain ⟨v, hv0, _, hm, hz0, hz1, hl, hv⟩ := nx_tells s _ 0 0 n z (by omega) HR.out
      have hp : v * 2 ^ (7 * 0) = v := Int.mul_one v
      rw [hp] at hm hv
      obtain rfl : n = v := by omega
      rw [List.drop_zero] at hl
      obtain ⟨j, rfl⟩ := Int.eq_ofNat_of_zero_le (show 0 ≤ z by omega)
      have hput := fun W => put_calls n hv0 hv W
      have hs2 : strOfNums (putL 9 n) = s.extract 0 j := by
        apply bytes_inj
        rw [bytes_extract, List.drop_zero, bytes_str (putL_in 9 n hv0 (by have : (128 : Int) ^ (9 + 1) = 1180591620717411303424 := by decide
                                                                          omega))]
        exact hl.symm
      rw [hs2] at hput
      have HP := Aside0.mk hput
      have hj : j ≤ s.size := by omega
      clear hput hs2 hl hv hm hp
      go_wp2_with fail
      go_region_with (go_at_call 17; refine (HP.out _).mono ?_; rintro e w4 ⟨rfl, hb⟩; have HB4 : Aside0 (Below w.heap.size w w4) := ⟨below_step (by repeat (first | (with_reducible first | exact HB3.out | apply below_alloc | apply pw_below_drewN | apply below_drew1) | exact HB3.out)) hb⟩; clear hb)
      go_wp2
      go_ret
      exact ⟨rfl, HB4.out⟩
    · have hcb : (c != 0) = true := bne_iff_ne.mpr hc
      go_wp2_with fail
      go_quiet (fail)
      go_wp2
      go_ret
      exact ⟨rfl, pw_below_drewN HB3.out _⟩
set_option maxRecDepth 100000 in
set_option maxHeartbeats 1000000 in
theorem short (s : ByteArray) (cut : Int) (hs : s.size ≤ 140737488351232) (hc : (Lit.int .u8 cut).wf = true) (w : World) : Calls Try.prog 4 #[.string s, .int .u8 cut] w fun e w' => e = .returned (.bool true) ∧ Below w.heap.size w w' := by
  have HB := Aside0.mk (Below.refl w.heap.size w)
  obtain ⟨c0, c1⟩ : 0 ≤ cut ∧ cut ≤ 255 := by simpa [Lit.wf, IntKind.min, IntKind.max, IntKind.signed, IntKind.bits] using hc
  clear hc
  by_cases h200 : 200 < s.size
  · have hb200 : decide (200 < (s.size : Int)) = true := decide_eq_true (by omega)
    go_enter Try.func4, Try.ntmps4
    go_wp2_with fail
    refine (alive _).mono ?_
    rintro e w1 ⟨rfl, hb⟩
    have HB1 := Aside0.mk (below_step HB.out hb)
    clear hb HB
    go_wp2_with fail
    go_ret
    exact ⟨rfl, HB1.out⟩
  · have hb200 : decide (200 < (s.size : Int)) = false := decide_eq_false (by omega)
    obtain ⟨c, rfl⟩ := Int.eq_ofNat_of_zero_le c0
    obtain ⟨n, z, d, hr⟩ : ∃ n z d, nx s (s.size + 1) 0 0 = (n, z, d) := ⟨_, _, _, rfl⟩
    have h1 := Next.calls s hs
    rw [hr] at h1
    have H1 := Aside0.mk h1
    have m1 : (n == n) = true := by simp
    have m2 : (z == z) = true := by simp
    have m3 : (d == d) = true := by simp
    by_cases hlt : s.size < c
    · go_enter Try.func4, Try.ntmps4
      clear h1 hr
      go_wp2_with fail
      refine (alive _).mono ?_
      rintro e w1 ⟨rfl, hb⟩
      have HB1 := Aside0.mk (below_step HB.out hb)
      clear hb HB
      go_wp2_with fail
      refine (H1.out _).mono ?_
      rintro e w2 ⟨he, hb⟩
      obtain rfl : e = .returned (.tuple #[.int .u64 n, .int .i64 z, .int .i64 d]) := he
      have HB2 := Aside0.mk (below_step HB1.out hb)
      clear hb HB1
      go_wp2_with fail
      refine (H1.out _).mono ?_
      rintro e w3 ⟨he, hb⟩
      obtain rfl : e = .returned (.tuple #[.int .u64 n, .int .i64 z, .int .i64 d]) := he
      have HB3 := Aside0.mk (below_step HB2.out hb)
      clear hb HB2
      by_cases hd : d = 2
      · subst hd
        go_wp2_with fail
        go_ret
        exact ⟨rfl, HB3.out⟩
      · have hdb : (d == 2) = false := beq_eq_false_iff_ne.mpr hd
        go_wp2_with fail
        go_ret
        exact ⟨rfl, HB3.out⟩
    · have hcs : c ≤ s.size := by omega
      have hz := size_extract0 s c hcs
      have h2 := Next.calls (s.extract 0 c) (by omega)
      have hbeg := nx_begin s c hcs (c + 1) (s.size + 1) 0 0 (by omega) (by omega) (by omega)
      rw [hz] at h2
      rw [hr] at hbeg
      obtain ⟨n2, z2, d2, hr2⟩ : ∃ n2 z2 d2, nx (s.extract 0 c) (c + 1) 0 0 = (n2, z2, d2) := ⟨_, _, _, rfl⟩
      rw [hr2] at h2 hbeg
      have H2 := Aside0.mk h2
      have HE := Aside0.mk hbeg
      clear h1 h2 hr hr2 hz hbeg
      go_enter Try.func4, Try.ntmps4
      go_wp2_with fail
      refine (alive _).mono ?_
      rintro e w1 ⟨rfl, hb⟩
      have HB1 := Aside0.mk (below_step HB.out hb)
      clear hb HB
      go_wp2_with fail
      refine (H2.out _).mono ?_
      rintro e w2 ⟨he, hb⟩
      obtain rfl : e = .returned (.tuple #[.int .u64 n2, .int .i64 z2, .int .i64 d2]) := he
      have HB2 := Aside0.mk (below_step HB1.out hb)
      clear hb HB1
      go_wp2_with fail
      refine (H1.out _).mono ?_
      rintro e w3 ⟨he, hb⟩
      obtain rfl : e = .returned (.tuple #[.int .u64 n, .int .i64 z, .int .i64 d]) := he
      have HB3 := Aside0.mk (below_step HB2.out hb)
      clear hb HB2
      by_cases hd : d2 = 2
      · subst hd
        go_wp2_with fail
        go_ret
        exact ⟨rfl, HB3.out⟩
      · have hdb : (d2 == 2) = false := beq_eq_false_iff_ne.mpr hd
        have heq : n2 = n ∧ z2 = z ∧ d2 = d := by
          rcases HE.out with h | h
          · simp only [Prod.mk.injEq] at h; exact absurd h.2.2 hd
          · simpa only [Prod.mk.injEq] using h
        obtain ⟨rfl, rfl, rfl⟩ := heq
        go_wp2_with fail
        go_ret
        exact ⟨rfl, HB3.out⟩
end Go.Proofs.Ytpceignbgnekmaa.LebLaws
