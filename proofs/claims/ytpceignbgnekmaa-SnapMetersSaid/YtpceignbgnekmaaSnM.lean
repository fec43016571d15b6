/- The law of a meter at a size. -/
import Derived.Test.YtpceignbgnekmaaSnK
import Derived.Test.YtpceignbgnekmaaMet
namespace Go.Proofs.Ytpceignbgnekmaa.Sn
open Go.RowKit Go.Proofs.YtpceignbgnekmaaW.PrintWords Go.Proofs.Ytpceignbgnekmaa.By Go.Proofs.Ytpceignbgnekmaa.Md Go.Proofs.Ytpceignbgnekmaa.Cur Go.Proofs.Ytpceignbgnekmaa.Next

set_option maxRecDepth 100000 in
set_option maxHeartbeats 2000000 in
theorem meters (s : ByteArray) (most room : Int) (hs : s.size ≤ 140737488351232) (_hm : (Lit.int .i64 most).wf = true) (hw : (Lit.int .i64 room).wf = true) (w : World) : Calls Try.prog 12 #[.string s, .int .i64 most, .int .i64 room] w fun e w' => e = .returned (.bool true) ∧ Below w.heap.size w w' := by
  have HB := Aside0.mk (Below.refl w.heap.size w)
  by_cases h15 : 1500 < s.size
  · have hb15 : decide (1500 < (s.size : Int)) = true := decide_eq_true (by omega)
    go_enter Try.func12, Try.ntmps12
    go_wp2_with fail
    refine (alive _).mono ?_
    rintro e w1 ⟨rfl, hb⟩
    have HB1 := Aside0.mk (below_step HB.out hb)
    clear hb HB
    go_wp2_with fail
    go_ret
    exact ⟨rfl, HB1.out⟩
  · have hb15 : decide (1500 < (s.size : Int)) = false := decide_eq_false (by omega)
    obtain ⟨n, k, e0, hr⟩ : ∃ n k e0, szF s = (n, k, e0) := ⟨_, _, _, rfl⟩
    have h2 := refsize_calls s hs
    rw [hr] at h2
    have hok := szF_ok s
    rw [hr] at hok
    have H2 := Aside0.mk h2
    have HR := Aside0.mk hr
    have HOK := Aside0.mk hok
    clear h2 hr hok
    obtain ⟨m, hmm⟩ : ∃ m, m = if room < 0 then 0 else room := ⟨_, rfl⟩
    obtain ⟨_, hrm⟩ : -9223372036854775808 ≤ room ∧ room ≤ 9223372036854775807 := by simpa [Lit.wf, IntKind.min, IntKind.max, IntKind.signed, IntKind.bits] using hw
    have hmb : 0 ≤ m ∧ m ≤ 9223372036854775807 ∧ max room 0 = m := by
      rw [hmm]
      split <;> omega
    have HMM := Aside0.mk hmm
    have HMB := Aside0.mk hmb
    clear hmm hmb hw hrm _hm
    have hbig : (decide (20000 < most) = true ∧ decide (20000 < n) = true) ∨ (decide (20000 < most) = false ∨ (decide (20000 < most) = true ∧ decide (20000 < n) = false)) := by
      by_cases h5 : 20000 < most
      · by_cases h6 : 20000 < n
        · exact .inl ⟨decide_eq_true h5, decide_eq_true h6⟩
        · exact .inr (.inr ⟨decide_eq_true h5, decide_eq_false h6⟩)
      · exact .inr (.inl (decide_eq_false h5))
    rcases hbig with ⟨t1, t2⟩ | ht
    · go_enter Try.func12, Try.ntmps12
      go_wp2_with fail
      refine (alive _).mono ?_
      rintro e w1 ⟨rfl, hb⟩
      have HB1 := Aside0.mk (below_step HB.out hb)
      clear hb HB
      go_wp2_with fail
      refine (H2.out _).mono ?_
      rintro e w2 ⟨rfl, hb⟩
      have HB2 := Aside0.mk (below_step HB1.out hb)
      clear hb HB1
      go_wp2_with fail
      go_ret
      exact ⟨rfl, HB2.out⟩
    · have hmx := HMM.out.symm
      by_cases he : e0 = 0
      · have heb : (e0 != 0) = false := by rw [he]; rfl
        have hec : (e0 == 0) = true := by rw [he]; rfl
        by_cases hnm' : most < n
        · have hnb : decide (most < n) = true := decide_eq_true hnm'
          have HER : Aside0 ((szF s).2.2 = 0 ∧ most < (szF s).1) := ⟨⟨by rw [HR.out]; exact he, by rw [HR.out]; exact hnm'⟩⟩
          clear he hnm'
          rcases ht with t1 | ⟨t1, t2⟩
          all_goals
            go_enter Try.func12, Try.ntmps12
            go_wp2_with fail
            refine (alive _).mono ?_
            rintro e w1 ⟨rfl, hb⟩
            have HB1 := Aside0.mk (below_step HB.out hb)
            clear hb HB
            go_wp2_with fail
            refine (H2.out _).mono ?_
            rintro e w2 ⟨rfl, hb⟩
            have HB2 := Aside0.mk (below_step HB1.out hb)
            clear hb HB1
            go_wp2_with fail
            refine (Met.new_calls w2 room m HMM.out).mono ?_
            rintro e w3 ⟨rfl, hm3, hb⟩
            have HB3 := Aside0.mk (below_step HB2.out hb)
            have hg0 : w.heap.size ≤ w2.heap.size := HB2.out.size
            have hg1 : w2.heap.size < w3.heap.size := blk_lt hm3
            obtain ⟨g, hg⟩ : ∃ g, w2.heap.size = g := ⟨_, rfl⟩
            rw [hg] at hm3 hg0 hg1 ⊢
            have HM3 := Aside0.mk hm3
            clear hb HB2 hm3 hg
            go_wp2_with fail
            refine (unpack_err s hs most (Ptr g) w3 5 (.inr ⟨HER.out.1, HER.out.2, rfl⟩)).mono ?_
            rintro e w4 ⟨rfl, hb⟩
            have HM4 := Aside0.mk ((Mod.of_below (fun _ => False) hb).blk HM3.out (fun h => h))
            have HB4 := Aside0.mk (below_step HB3.out hb)
            clear hb HB3 HM3 HER
            go_wp2_with (first | (go_at_call 37; refine (Met.used_calls w4 g m 0 0 0 HM4.out).mono ?_; rintro e w5 ⟨rfl, rfl⟩) | (go_at_call 38; refine (Met.taken_calls w4 g m 0 0 0 HM4.out).mono ?_; rintro e w5 ⟨rfl, rfl⟩))
            go_ret
            exact ⟨rfl, HB4.out⟩
        · have hnb : decide (most < n) = false := decide_eq_false hnm'
          subst he
          have hnm : n ≤ most := by omega
          have h0 : 0 ≤ n := by
            rcases HOK.out with h | ⟨h, _⟩
            · exact h.2.1
            · exact absurd rfl h
          have h63 : n ≤ 4294967295 := by
            rcases HOK.out with h | ⟨h, _⟩
            · exact h.2.2.1
            · exact absurd rfl h
          by_cases hfit : m < n
          · have hfb : decide (m < n) = true := decide_eq_true hfit
            rcases ht with t1 | ⟨t1, t2⟩
            all_goals
              go_enter Try.func12, Try.ntmps12
              go_wp2_with fail
              refine (alive _).mono ?_
              rintro e w1 ⟨rfl, hb⟩
              have HB1 := Aside0.mk (below_step HB.out hb)
              clear hb HB
              go_wp2_with fail
              refine (H2.out _).mono ?_
              rintro e w2 ⟨rfl, hb⟩
              have HB2 := Aside0.mk (below_step HB1.out hb)
              clear hb HB1
              go_wp2_with fail
              refine (Met.new_calls w2 room m HMM.out).mono ?_
              rintro e w3 ⟨rfl, hm3, hb⟩
              have HB3 := Aside0.mk (below_step HB2.out hb)
              have hg0 : w.heap.size ≤ w2.heap.size := HB2.out.size
              have hg1 : w2.heap.size < w3.heap.size := blk_lt hm3
              obtain ⟨g, hg⟩ : ∃ g, w2.heap.size = g := ⟨_, rfl⟩
              rw [hg] at hm3 hg0 hg1 ⊢
              have HM3 := Aside0.mk hm3
              clear hb HB2 hm3 hg
              go_wp2_with fail
              refine (unpack_over s hs most n k g w3 HR.out hnm (fun W W' => Met.Mt W' g m 0 0 0 ∧ Mod (· = g) W W') ?_).mono ?_
              · intro W hW
                exact (Met.take_over W g n m 0 0 0 ((Mod.of_below (fun _ => False) hW).blk HM3.out (fun h => h)) h0 ⟨by omega, HMB.out.1, HMB.out.2.1⟩ ⟨by omega, by omega⟩ (.inl (by omega))).mono fun e w' ⟨h1, h2, h3⟩ => ⟨h1, h2, h3⟩
              rintro e w4 ⟨rfl, W, hbW, hm4, hmod⟩
              have HM4 := Aside0.mk hm4
              have HB4 := Aside0.mk (hmod.below (below_step HB3.out hbW) (Nat.le_trans hg0 (Nat.le_trans (Nat.le_of_lt hg1) hbW.size)) (by rintro i rfl; exact hg0))
              clear hm4 hmod hbW HB3 HM3
              go_wp2_with (first | (go_at_call 37; refine (Met.used_calls w4 g m 0 0 0 HM4.out).mono ?_; rintro e w5 ⟨rfl, rfl⟩) | (go_at_call 38; refine (Met.taken_calls w4 g m 0 0 0 HM4.out).mono ?_; rintro e w5 ⟨rfl, rfl⟩))
              go_ret
              exact ⟨rfl, HB4.out⟩
          · have hfb : decide (m < n) = false := decide_eq_false hfit
            obtain ⟨d, hd⟩ : ∃ d, (if (0 : Int) < n then n else 0) = d := ⟨_, rfl⟩
            have HD := Aside0.mk hd
            obtain ⟨r, hr⟩ : ∃ r, outF s most = r := ⟨_, rfl⟩
            have h4 := refunpack_calls s hs most
            have hff : fin n (run n (s.extract k.toNat s.size) ((s.extract k.toNat s.size).size + 1) [] 0) = r := by
              rw [← hr, outF, HR.out]
              dsimp only
              rw [if_neg (fun h => h rfl), if_neg hnm']
            rw [hr] at h4
            have H4 := Aside0.mk h4
            have HF := Aside0.mk hff
            clear hd hr h4 hff
            rcases ht with t1 | ⟨t1, t2⟩
            all_goals
              go_enter Try.func12, Try.ntmps12
              go_wp2_with fail
              refine (alive _).mono ?_
              rintro e w1 ⟨rfl, hb⟩
              have HB1 := Aside0.mk (below_step HB.out hb)
              clear hb HB
              go_wp2_with fail
              refine (H2.out _).mono ?_
              rintro e w2 ⟨rfl, hb⟩
              have HB2 := Aside0.mk (below_step HB1.out hb)
              clear hb HB1
              go_wp2_with fail
              refine (Met.new_calls w2 room m HMM.out).mono ?_
              rintro e w3 ⟨rfl, hm3, hb⟩
              have HB3 := Aside0.mk (below_step HB2.out hb)
              have hg0 : w.heap.size ≤ w2.heap.size := HB2.out.size
              have hg1 : w2.heap.size < w3.heap.size := blk_lt hm3
              obtain ⟨g, hg⟩ : ∃ g, w2.heap.size = g := ⟨_, rfl⟩
              rw [hg] at hm3 hg0 hg1 ⊢
              have HM3 := Aside0.mk hm3
              clear hb HB2 hm3 hg
              go_wp2_with fail
              refine (unpack_ok s hs most n k (Ptr g) w3 HR.out hnm (fun W W' => Met.Mt W' g m n n d ∧ Mod (· = g) W W') (.inr ⟨g, rfl, ?_⟩)).mono ?_
              · intro W hW
                have := Met.take_ok W g n m 0 0 0 ((Mod.of_below (fun _ => False) hW).blk HM3.out (fun h => h)) h0 ⟨by omega, HMB.out.1, HMB.out.2.1⟩ ⟨by omega, by omega⟩ (by omega) (by omega)
                rw [Int.zero_add, HD.out] at this
                exact this.mono fun e w' ⟨h1, h2, h3⟩ => ⟨h1, h2, h3⟩
              rw [HF.out]
              rintro e w5 ⟨rfl, W, w4, hbW, ⟨hm4, hmod⟩, hb5⟩
              have HM5 := Aside0.mk ((Mod.of_below (fun _ => False) hb5).blk hm4 (fun h => h))
              have hB4 := hmod.below (below_step HB3.out hbW) (Nat.le_trans hg0 (Nat.le_trans (Nat.le_of_lt hg1) hbW.size)) (by rintro i rfl; exact hg0)
              have HB5 := Aside0.mk (below_step hB4 hb5)
              clear hm4 hmod hbW HB3 HM3 hb5 hB4 HF
              go_wp2_with fail
              refine (H4.out _).mono ?_
              rintro e w6 ⟨rfl, hb⟩
              have HM6 := Aside0.mk ((Mod.of_below (fun _ => False) hb).blk HM5.out (fun h => h))
              have HB6 := Aside0.mk (below_step HB5.out hb)
              clear hb HB5 HM5
              go_wp2_with (first | (go_at_call 37; refine (Met.used_calls w6 g m n n d HM6.out).mono ?_; rintro e w7 ⟨rfl, rfl⟩) | (go_at_call 38; refine (Met.taken_calls w6 g m n n d HM6.out).mono ?_; rintro e w7 ⟨rfl, rfl⟩))
              go_ret
              exact ⟨rfl, HB6.out⟩
      · have heb : (e0 != 0) = true := bne_iff_ne.mpr he
        have hec : (e0 == 0) = false := beq_eq_false_iff_ne.mpr he
        have HER : Aside0 ((szF s).2.2 ≠ 0 ∧ (szF s).2.2 = e0 ∨ (szF s).2.2 = 0 ∧ most < (szF s).1 ∧ e0 = 5) := ⟨.inl ⟨by rw [HR.out]; exact he, by rw [HR.out]⟩⟩
        clear he
        rcases ht with t1 | ⟨t1, t2⟩
        all_goals
          go_enter Try.func12, Try.ntmps12
          go_wp2_with fail
          refine (alive _).mono ?_
          rintro e w1 ⟨rfl, hb⟩
          have HB1 := Aside0.mk (below_step HB.out hb)
          clear hb HB
          go_wp2_with fail
          refine (H2.out _).mono ?_
          rintro e w2 ⟨rfl, hb⟩
          have HB2 := Aside0.mk (below_step HB1.out hb)
          clear hb HB1
          go_wp2_with fail
          refine (Met.new_calls w2 room m HMM.out).mono ?_
          rintro e w3 ⟨rfl, hm3, hb⟩
          have HB3 := Aside0.mk (below_step HB2.out hb)
          have hg0 : w.heap.size ≤ w2.heap.size := HB2.out.size
          have hg1 : w2.heap.size < w3.heap.size := blk_lt hm3
          obtain ⟨g, hg⟩ : ∃ g, w2.heap.size = g := ⟨_, rfl⟩
          rw [hg] at hm3 hg0 hg1 ⊢
          have HM3 := Aside0.mk hm3
          clear hb HB2 hm3 hg
          go_wp2_with fail
          refine (unpack_err s hs most (Ptr g) w3 e0 HER.out).mono ?_
          rintro e w4 ⟨rfl, hb⟩
          have HM4 := Aside0.mk ((Mod.of_below (fun _ => False) hb).blk HM3.out (fun h => h))
          have HB4 := Aside0.mk (below_step HB3.out hb)
          clear hb HB3 HM3 HER
          go_wp2_with (first | (go_at_call 37; refine (Met.used_calls w4 g m 0 0 0 HM4.out).mono ?_; rintro e w5 ⟨rfl, rfl⟩) | (go_at_call 38; refine (Met.taken_calls w4 g m 0 0 0 HM4.out).mono ?_; rintro e w5 ⟨rfl, rfl⟩))
          go_ret
          exact ⟨rfl, HB4.out⟩
end Go.Proofs.Ytpceignbgnekmaa.Sn
