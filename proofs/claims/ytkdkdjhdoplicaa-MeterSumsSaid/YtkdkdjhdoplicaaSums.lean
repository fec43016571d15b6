/- The walk of MeterSums. -/
import Derived.Test.YtkdkdjhdoplicaaMet
import Derived.Test.YtkdkdjhdoplicaaSizes
namespace Go.Proofs.Ytkdkdjhdoplicaa.Sums
open Go.RowKit Go.Proofs.YtkdkdjhdoplicaaW.PrintWords Go.Proofs.Ytkdkdjhdoplicaa.Md Go.Proofs.Ytkdkdjhdoplicaa.Met Go.Proofs.YtkdkdjhdoplicaaSizes

set_option maxRecDepth 100000 in
set_option maxHeartbeats 4000000 in
theorem sums (w : World) (most : Int) (A : Option Addr) (len cap : Nat) (zs : List Int) (hmost : (Lit.int .i64 most).wf = true) (hz : IsRow .u16 w A len cap zs) (_hl : len * 2 ≤ 140737488351232) :
    Calls Try.prog 3 #[.int .i64 most, .slice A len cap] w fun e w' => e = .returned (.bool true) ∧ Below w.heap.size w w' := by
  have HB := Aside0.mk (Below.refl w.heap.size w)
  obtain ⟨hlo, hhi⟩ : -9223372036854775808 ≤ most ∧ most ≤ 9223372036854775807 := by simpa [Lit.wf, IntKind.min, IntKind.max, IntKind.signed, IntKind.bits] using hmost
  clear hmost
  by_cases hg : 100 < len
  · have h2 : decide (100 < (len : Int)) = true := decide_eq_true (by omega)
    clear hz hg
    go_enter Try.func3, Try.ntmps3
    go_wp2_with fail
    refine (alive _).mono ?_
    rintro e w1 ⟨rfl, hb⟩
    have HB1 := Aside0.mk (below_step HB.out hb)
    clear hb HB
    go_wp2_with fail
    go_ret
    exact ⟨rfl, HB1.out⟩
  · have h2 : decide (100 < (len : Int)) = false := decide_eq_false (by omega)
    have hlen : len ≤ 100 := by omega
    have HZ := Aside0.mk hz
    clear hz hg
    obtain ⟨M, hM, hM0, hM1⟩ : ∃ M : Int, (M = if most < 0 then 0 else most) ∧ 0 ≤ M ∧ M ≤ 9223372036854775807 := ⟨_, rfl, by split <;> omega, by split <;> omega⟩
    have HMM := Aside0.mk hM
    clear hM
    go_enter Try.func3, Try.ntmps3
    go_wp2_with fail
    refine (alive _).mono ?_
    rintro e w1 ⟨rfl, hb⟩
    have HB1 := Aside0.mk (below_step HB.out hb)
    clear hb HB
    go_wp2_with fail
    refine (new_calls _ _ M HMM.out).mono ?_
    rintro e w2 ⟨rfl, hr, hb⟩
    have HB2 := Aside0.mk (below_step HB1.out hb)
    have HR2 := Aside0.mk hr
    have hge : w.heap.size ≤ w1.heap.size := HB1.out.size
    clear hb hr HB1
    obtain ⟨g, hgg⟩ : ∃ g, g = w1.heap.size := ⟨_, rfl⟩
    rw [← hgg] at HR2 hge
    have HG := Aside0.mk (show ∀ i, i = g → w.heap.size ≤ i by omega)
    rw [← hgg]
    clear hgg hge
    go_wp2_with fail
    go_loopg [6, 7] len (fun kq v6 v7 wr => ∃ (k : Nat) (all : Int), v7 = .int .i64 k ∧ v6 = .int .i64 all ∧ k ≤ len ∧ 0 ≤ all ∧ all ≤ 65535 * k ∧ all ≤ M ∧ Aside0 (kq = len - k) ∧ Aside0 (Mt wr g M all all all) ∧ Aside0 (Below w.heap.size w wr))
    case atStart => exact ⟨0, 0, rfl, rfl, by omega, by omega, by omega, by omega, ⟨by omega⟩, HR2, HB2⟩
    case round =>
      clear HB2 HR2
      obtain ⟨k, all, rfl, rfl, hk, ha0, ha1, ha2, HK, HR, HB⟩ := hrel
      by_cases hlt : k < len
      · obtain ⟨ad, rfl, hx, hw⟩ := HZ.out.at_ HB.out k hlt
        obtain ⟨x, hxe⟩ : ∃ x, x = zs.getD k 0 := ⟨_, rfl⟩
        rw [← hxe] at hx hw
        obtain ⟨x0, x1⟩ : 0 ≤ x ∧ x ≤ 65535 := by simpa [Lit.wf, IntKind.min, IntKind.max, IntKind.signed, IntKind.bits] using hw
        clear hw hxe
        have hmx : (if most < 0 then 0 else most) = M := HMM.out.symm
        by_cases hle : all + x ≤ M
        · go_wp2_with fail
          refine (take_ok _ g x M all all all HR.out x0 ⟨ha0, ha2, hM1⟩ ⟨ha0, by omega⟩ (by omega) (by omega)).mono ?_
          rintro e w4 ⟨rfl, hm, hmod⟩
          have e1 : (if all < all + x then all + x else all) = all + x := by split <;> omega
          rw [e1] at hm
          have HR4 := Aside0.mk hm
          have HB4 := Aside0.mk (hmod.below HB.out HB.out.size HG.out)
          clear hm hmod e1
          go_wp2_with fail
          go_roundg (len - (k + 1))
          case measure => have := HK.out; omega
          case rel => exact ⟨k + 1, all + x, by go_num, rfl, by omega, by omega, by omega, by omega, ⟨rfl⟩, HR4, HB4⟩
        · go_wp2_with fail
          refine (take_over _ g x M all all all HR.out x0 ⟨ha0, ha2, hM1⟩ ⟨ha0, by omega⟩ (by omega)).mono ?_
          rintro e w4 ⟨rfl, hm, hmod⟩
          have HR4 := Aside0.mk hm
          have HB4 := Aside0.mk (hmod.below HB.out HB.out.size HG.out)
          clear hm hmod
          go_wp2_with fail
          go_roundg (len - (k + 1))
          case measure => have := HK.out; omega
          case rel => exact ⟨k + 1, all, by go_num, rfl, by omega, by omega, by omega, by omega, ⟨rfl⟩, HR4, HB4⟩
      · have m1 : (all == all) = true := by simp
        go_wp2_with fail
        refine (used_calls _ g _ _ _ _ HR.out).mono ?_
        rintro e w4 ⟨rfl, rfl⟩
        go_wp2_with fail
        refine (taken_calls _ g _ _ _ _ HR.out).mono ?_
        rintro e w4 ⟨rfl, rfl⟩
        go_wp2_with fail
        refine (top_calls _ g _ _ _ _ HR.out).mono ?_
        rintro e w4 ⟨rfl, rfl⟩
        go_wp2_with fail
        refine (give_ok _ g all _ _ _ _ HR.out ha0 (Int.le_refl _) (by omega)).mono ?_
        rintro e w4 ⟨rfl, hm, hmod⟩
        rw [Int.sub_self] at hm
        have HR4 := Aside0.mk hm
        have HB4 := Aside0.mk (hmod.below HB.out HB.out.size HG.out)
        clear hm hmod
        go_wp2_with fail
        refine (used_calls _ g _ _ _ _ HR4.out).mono ?_
        rintro e w5 ⟨rfl, rfl⟩
        go_wp2_with fail
        refine (top_calls _ g _ _ _ _ HR4.out).mono ?_
        rintro e w5 ⟨rfl, rfl⟩
        go_wp2_with fail
        go_ret
        exact ⟨rfl, HB4.out⟩
end Go.Proofs.Ytkdkdjhdoplicaa.Sums
