/- The walk of LebPuts. -/
import Derived.Test.YtpceignbgnekmaaLebLaws
import Derived.Test.YtpceignbgnekmaaLebPut
namespace Go.Proofs.Ytpceignbgnekmaa.LebPuts
open Go.RowKit Go.Proofs.YtpceignbgnekmaaW.PrintWords Go.Proofs.Ytpceignbgnekmaa.By Go.Proofs.Ytpceignbgnekmaa.Next Go.Proofs.Ytpceignbgnekmaa.Leb Go.Proofs.Ytpceignbgnekmaa.LebLaws

set_option maxRecDepth 100000 in
set_option maxHeartbeats 1000000 in
theorem puts (n : Int) (s : ByteArray) (hn : (Lit.int .u64 n).wf = true) (hs : s.size ≤ 140737488351232) (w : World) : Calls Try.prog 5 #[.int .u64 n, .string s] w fun e w' => e = .returned (.bool true) ∧ Below w.heap.size w w' := by
  have HB := Aside0.mk (Below.refl w.heap.size w)
  obtain ⟨c0, c1⟩ : 0 ≤ n ∧ n < 18446744073709551616 := by
    have : 0 ≤ n ∧ n ≤ 18446744073709551615 := by simpa [Lit.wf, IntKind.min, IntKind.max, IntKind.signed, IntKind.bits] using hn
    omega
  clear hn
  by_cases h100 : 100 < s.size
  · have hb100 : decide (100 < (s.size : Int)) = true := decide_eq_true (by omega)
    clear c1
    go_enter Try.func5, Try.ntmps5
    go_wp2_with fail
    refine (alive _).mono ?_
    rintro e w1 ⟨rfl, hb⟩
    have HB1 := Aside0.mk (below_step HB.out hb)
    clear hb HB
    go_wp2_with fail
    go_ret
    exact ⟨rfl, HB1.out⟩
  · have hb100 : decide (100 < (s.size : Int)) = false := decide_eq_false (by omega)
    have hp := fun W => put_calls n c0 c1 W
    have hbig : n < 128 ^ (9 + 1) := by
      have : (128 : Int) ^ (9 + 1) = 1180591620717411303424 := by decide
      omega
    have hrp := fun W => LebPut.put 9 n W (by omega) c0 hbig c1
    clear hbig
    have hsz := fun W => LebPut.size W n c0 c1
    have hnx := nx_put_all n c0 c1 s
    have hlen := strOfNums_size (putL 9 n)
    have hle := putL_len 9 n
    obtain ⟨p, hpp⟩ : ∃ p, p = strOfNums (putL 9 n) := ⟨_, rfl⟩
    rw [← hpp] at hp hrp hnx hlen
    rw [← hlen] at hsz hnx
    have hcall := fun W => Next.calls (p ++ s) (by rw [ByteArray.size_append]; omega) W
    rw [hnx] at hcall
    have hsum : p.size + s.size ≤ 9223372036854775807 := by omega
    have HP := Aside0.mk hp
    have HRP := Aside0.mk hrp
    have HSZ := Aside0.mk hsz
    have HC := Aside0.mk hcall
    clear hp hrp hsz hnx hcall hlen hle hpp c1
    have m1 : (n == n) = true := by simp
    have m2 : ((p.size : Int) == (p.size : Int)) = true := by simp
    go_enter Try.func5, Try.ntmps5
    go_wp2_with fail
    refine (alive _).mono ?_
    rintro e w1 ⟨rfl, hb⟩
    have HB1 := Aside0.mk (below_step HB.out hb)
    clear hb HB
    go_wp2_with fail
    refine (HP.out _).mono ?_
    rintro e w2 ⟨rfl, hb⟩
    have HB2 := Aside0.mk (below_step HB1.out hb)
    clear hb HB1
    go_wp2_with fail
    refine (HC.out _).mono ?_
    rintro e w3 ⟨he, hb⟩
    obtain rfl : e = .returned (.tuple #[.int .u64 n, .int .i64 (p.size : Int), .int .i64 0]) := he
    have HB3 := Aside0.mk (below_step HB2.out hb)
    clear hb HB2
    go_wp2_with fail
    refine (HRP.out _).mono ?_
    rintro e w4 ⟨rfl, hb⟩
    have HB4 := Aside0.mk (below_step HB3.out hb)
    clear hb HB3
    go_wp2_with fail
    refine (HSZ.out _).mono ?_
    rintro e w5 ⟨rfl, hb⟩
    have HB5 := Aside0.mk (below_step HB4.out hb)
    clear hb HB4
    go_wp2_with fail
    go_ret
    exact ⟨rfl, HB5.out⟩
end Go.Proofs.Ytpceignbgnekmaa.LebPuts
