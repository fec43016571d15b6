/- The walk of CursorWhole. -/
import Derived.Test.YtpceignbgnekmaaCurB
import Derived.Test.YtpceignbgnekmaaSizes
namespace Go.Proofs.Ytpceignbgnekmaa.Whole
open Go.RowKit Go.Proofs.YtpceignbgnekmaaW.PrintWords Go.Proofs.Ytpceignbgnekmaa.By Go.Proofs.Ytpceignbgnekmaa.Md Go.Proofs.Ytpceignbgnekmaa.Cur Go.Proofs.YtpceignbgnekmaaSizes

theorem join_extract (s : ByteArray) (a b : Nat) (h : a ≤ b) (_hb : b ≤ s.size) : s.extract 0 a ++ s.extract a b = s.extract 0 b := by
  apply bytes_inj
  rw [bytes_append, bytes_extract, bytes_extract, bytes_extract, List.drop_zero, List.drop_zero]
  have e : (bytesOf s).take a = ((bytesOf s).take b).take a := by rw [List.take_take]; congr 1; omega
  rw [e, List.take_append_drop]

theorem extract_all (s : ByteArray) : s.extract 0 s.size = s := by
  apply bytes_inj
  rw [bytes_extract, List.drop_zero, List.take_of_length_le (by rw [bytesOf_length]; omega)]

set_option maxRecDepth 100000 in
set_option maxHeartbeats 2000000 in
theorem whole (w : World) (s : ByteArray) (A : Option Addr) (len cap : Nat) (zs : List Int) (hs : s.size ≤ 140737488351232) (hz : IsRow .u8 w A len cap zs) (_hl : len * 1 ≤ 140737488351232) :
    Calls Try.prog 6 #[.string s, .slice A len cap] w fun e w' => e = .returned (.bool true) ∧ Below w.heap.size w w' := by
  have HB := Aside0.mk (Below.refl w.heap.size w)
  by_cases hg : 1000 < s.size ∨ 100 < len
  · have hgb : (decide (1000 < (s.size : Int)) = true) ∨ (decide (1000 < (s.size : Int)) = false ∧ decide (100 < (len : Int)) = true) := by
      by_cases h : 1000 < s.size
      · exact .inl (decide_eq_true (by omega))
      · exact .inr ⟨decide_eq_false (by omega), decide_eq_true (by omega)⟩
    clear hz hg
    rcases hgb with h1 | ⟨h1, h2⟩
    all_goals
      go_enter Try.func6, Try.ntmps6
      go_wp2_with fail
      refine (alive_calls _).mono ?_
      rintro e w1 ⟨rfl, hb⟩
      have HB1 := Aside0.mk (below_step HB.out hb)
      clear hb HB
      go_wp2_with fail
      go_ret
      exact ⟨rfl, HB1.out⟩
  · have h1 : decide (1000 < (s.size : Int)) = false := decide_eq_false (by omega)
    have h2 : decide (100 < (len : Int)) = false := decide_eq_false (by omega)
    have hlen : len ≤ 100 := by omega
    have hsz : s.size ≤ 1000 := by omega
    have HZ := Aside0.mk hz
    clear hz hg hs
    go_enter Try.func6, Try.ntmps6
    go_wp2_with fail
    refine (alive_calls _).mono ?_
    rintro e w1 ⟨rfl, hb⟩
    have HB1 := Aside0.mk (below_step HB.out hb)
    clear hb HB
    go_wp2_with fail
    refine (read_calls _ _).mono ?_
    rintro e w2 ⟨rfl, hr, hb⟩
    have HB2 := Aside0.mk (below_step HB1.out hb)
    have HR2 := Aside0.mk hr
    have hge : w.heap.size ≤ w1.heap.size := HB1.out.size
    clear hb hr HB1
    obtain ⟨g, hgg⟩ : ∃ g, g = w1.heap.size := ⟨_, rfl⟩
    rw [← hgg] at HR2 hge
    have HG := Aside0.mk hgg
    rw [← hgg]
    clear hgg
    go_wp2_with fail
    go_loopg [6, 7] len (fun kq v6 v7 wr => ∃ (k a : Nat), v7 = .int .i64 k ∧ v6 = .string (s.extract 0 a) ∧ k ≤ len ∧ a ≤ s.size ∧ Aside0 (kq = len - k) ∧ Aside0 (Rd wr g s a 0) ∧ Aside0 (Below w.heap.size w wr))
    case atStart => exact ⟨0, 0, rfl, by rw [show s.extract 0 0 = ⟨#[]⟩ from bytes_inj (by rw [bytes_extract]; simp; rfl)], by omega, by omega, ⟨by omega⟩, HR2, HB2⟩
    case round =>
      clear HB2 HR2
      obtain ⟨k, a, rfl, rfl, hk, ha, HK, HR, HB⟩ := hrel
      by_cases hlt : k < len
      · obtain ⟨ad, rfl, hx, hw⟩ := HZ.out.at_ HB.out k hlt
        obtain ⟨x, hxe⟩ : ∃ x, x = zs.getD k 0 := ⟨_, rfl⟩
        rw [← hxe] at hx hw
        obtain ⟨x0, x1⟩ : 0 ≤ x ∧ x ≤ 255 := by simpa [Lit.wf, IntKind.min, IntKind.max, IntKind.signed, IntKind.bits] using hw
        clear hw hxe
        obtain ⟨m, rfl⟩ := Int.eq_ofNat_of_zero_le x0
        by_cases hm : m ≤ s.size - a
        · have hd : decide (s.size - a < m) = false := decide_eq_false (by omega)
          go_wp2_with fail
          refine (left_calls _ g s a 0 HR.out (by omega) (by omega)).mono ?_
          rintro e w3 ⟨rfl, ⟨⟨nq, rfl⟩⟩⟩
          go_wp2_with fail
          refine (take_ok _ g s a m (HR.out.drewN _) (by omega) (by omega)).mono ?_
          rintro e w4 ⟨he, hr, hmm⟩
          obtain rfl : e = .returned (.string (s.extract a (a + m))) := he
          have HR4 := Aside0.mk (show Rd w4 g s (a + m) 0 from hr)
          have HB4 := Aside0.mk (hmm.below (pw_below_drewN HB.out _) (show w.heap.size ≤ (wr.drewN _).heap.size from HB.out.size) (by rintro i rfl; exact hge))
          clear hr hmm
          have hsum : (s.extract 0 a).size + (s.extract a (a + m)).size ≤ 9223372036854775807 := by rw [ByteArray.size_extract, ByteArray.size_extract]; omega
          have hjoin := join_extract s a (a + m) (by omega) (by omega)
          have HJ := Aside0.mk hjoin
          have hsz2 : (s.extract 0 a ++ s.extract a (a + m)).size = a + m := by rw [hjoin, ByteArray.size_extract]; omega
          clear hjoin
          go_wp2_with fail
          refine (at_calls _ g s (a + m) 0 HR4.out).mono ?_
          rintro e w5 ⟨rfl, rfl⟩
          go_wp2_with fail
          go_roundg (len - (k + 1))
          case measure => have := HK.out; omega
          case rel => exact ⟨k + 1, a + m, by go_num, by first | rfl | rw [HJ.out] | rw [show a + (s.size - a) = s.size by omega, extract_all], by omega, by omega, ⟨rfl⟩, HR4, HB4⟩
        · have hd : decide (s.size - a < m) = true := decide_eq_true (by omega)
          go_wp2_with fail
          refine (left_calls _ g s a 0 HR.out (by omega) (by omega)).mono ?_
          rintro e w3 ⟨rfl, ⟨⟨nq, rfl⟩⟩⟩
          go_wp2_with fail
          refine (left_calls _ g s a 0 (HR.out.drewN _) (by omega) (by omega)).mono ?_
          rintro e w3 ⟨rfl, ⟨⟨nq2, rfl⟩⟩⟩
          go_wp2_with fail
          refine (take_ok _ g s a (s.size - a) (HR.out.drewN _) (by omega) (by omega)).mono ?_
          rintro e w4 ⟨he, hr, hmm⟩
          obtain rfl : e = .returned (.string (s.extract a (a + (s.size - a)))) := he
          have HR4 := Aside0.mk (show Rd w4 g s (a + (s.size - a)) 0 from hr)
          have HB4 := Aside0.mk (hmm.below (pw_below_drewN HB.out _) (show w.heap.size ≤ (wr.drewN _).heap.size from HB.out.size) (by rintro i rfl; exact hge))
          clear hr hmm
          have hsum : (s.extract 0 a).size + (s.extract a (a + (s.size - a))).size ≤ 9223372036854775807 := by rw [ByteArray.size_extract, ByteArray.size_extract]; omega
          have hjoin := join_extract s a (a + (s.size - a)) (by omega) (by omega)
          have HJ := Aside0.mk hjoin
          have hsz2 : (s.extract 0 a ++ s.extract a (a + (s.size - a))).size = a + (s.size - a) := by rw [hjoin, ByteArray.size_extract]; omega
          clear hjoin
          go_wp2_with fail
          refine (at_calls _ g s (a + (s.size - a)) 0 HR4.out).mono ?_
          rintro e w5 ⟨rfl, rfl⟩
          go_wp2_with fail
          go_roundg (len - (k + 1))
          case measure => have := HK.out; omega
          case rel => exact ⟨k + 1, a + (s.size - a), by go_num, by first | rfl | rw [HJ.out] | rw [show a + (s.size - a) = s.size by omega, extract_all], by omega, by omega, ⟨rfl⟩, HR4, HB4⟩
      · go_wp2_with fail
        refine (all_calls _ g s a HR.out (by omega) (by omega)).mono ?_
        rintro e w4 ⟨he, hr, hmm⟩
        obtain rfl : e = .returned (.string (s.extract a s.size)) := he
        have HR4 := Aside0.mk (show Rd w4 g s s.size 0 from hr)
        have HB4 := Aside0.mk (hmm.below HB.out HB.out.size (by rintro i rfl; exact hge))
        clear hr hmm
        have hsum : (s.extract 0 a).size + (s.extract a s.size).size ≤ 9223372036854775807 := by rw [ByteArray.size_extract, ByteArray.size_extract]; omega
        have hjoin : s.extract 0 a ++ s.extract a s.size = s := by rw [join_extract s a s.size (by omega) (by omega), extract_all]
        go_wp2_with fail
        refine (left_calls _ g s s.size 0 HR4.out (by omega) (by omega)).mono ?_
        rintro e w5 ⟨he, ⟨⟨nq, rfl⟩⟩⟩
        obtain rfl : e = .returned (.int .i64 0) := by rw [he, Nat.sub_self]; rfl
        go_wp2_with fail
        refine (fault_calls _ g s s.size 0 (HR4.out.drewN _)).mono ?_
        rintro e w5 ⟨rfl, rfl⟩
        go_wp2_with fail
        go_ret
        exact ⟨rfl, pw_below_drewN HB4.out _⟩
end Go.Proofs.Ytpceignbgnekmaa.Whole
