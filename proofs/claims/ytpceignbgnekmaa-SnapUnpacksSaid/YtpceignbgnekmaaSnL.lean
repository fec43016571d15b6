/- The law of all bytes: both unpack to the same. -/
import Derived.Test.YtpceignbgnekmaaSnK
namespace Go.Proofs.Ytpceignbgnekmaa.Sn
open Go.RowKit Go.Proofs.YtpceignbgnekmaaW.PrintWords Go.Proofs.Ytpceignbgnekmaa.By Go.Proofs.Ytpceignbgnekmaa.Md Go.Proofs.Ytpceignbgnekmaa.Cur Go.Proofs.Ytpceignbgnekmaa.Next

set_option maxRecDepth 100000 in
set_option maxHeartbeats 2000000 in
theorem unpacks (s : ByteArray) (most : Int) (hs : s.size ≤ 140737488351232) (_hw : (Lit.int .i64 most).wf = true) (w : World) : Calls Try.prog 9 #[.string s, .int .i64 most] w fun e w' => e = .returned (.bool true) ∧ Below w.heap.size w w' := by
  have HB := Aside0.mk (Below.refl w.heap.size w)
  by_cases h15 : 1500 < s.size
  · have hb15 : decide (1500 < (s.size : Int)) = true := decide_eq_true (by omega)
    go_enter Try.func9, Try.ntmps9
    go_wp2_with fail
    refine (alive _).mono ?_
    rintro e w1 ⟨rfl, hb⟩
    have HB1 := Aside0.mk (below_step HB.out hb)
    clear hb HB
    go_wp2_with fail
    go_ret
    exact ⟨rfl, HB1.out⟩
  · have hb15 : decide (1500 < (s.size : Int)) = false := decide_eq_false (by omega)
    obtain ⟨n, k, e0, hr⟩ : ∃ n k e0, szF s = (n, k, e0) := ⟨_, _, _, rfl⟩
    have h1 := size_calls s hs
    have h2 := refsize_calls s hs
    rw [hr] at h1 h2
    have hou := out_ok s most
    rw [hr] at hou
    obtain ⟨o, g, ho⟩ : ∃ o g, outF s most = (o, g) := ⟨_, _, rfl⟩
    have h3 := unpack_nil s hs most
    have h4 := refunpack_calls s hs most
    rw [ho] at h3 h4 hou
    dsimp only at hou
    have H1 := Aside0.mk h1
    have H2 := Aside0.mk h2
    have H3 := Aside0.mk h3
    have H4 := Aside0.mk h4
    have HO := Aside0.mk hou
    clear h1 h2 h3 h4 hr ho hou
    have hcase : (decide (20000 < most) = true ∧ decide (20000 < n) = true) ∨ ((decide (20000 < most) = false ∨ (decide (20000 < most) = true ∧ decide (20000 < n) = false)) ∧ ((g != 0) = true ∨ ((g != 0) = false ∧ (((o.size : Int) == n) = true) ∧ decide (n ≤ most) = true))) := by
      have hg : (g != 0) = true ∨ ((g != 0) = false ∧ (((o.size : Int) == n) = true) ∧ decide (n ≤ most) = true) := by
        by_cases hg : g = 0
        · obtain ⟨h1, h2⟩ := HO.out hg
          exact .inr ⟨by rw [hg]; rfl, beq_iff_eq.2 h1, decide_eq_true h2⟩
        · exact .inl (bne_iff_ne.mpr hg)
      by_cases h5 : 20000 < most
      · by_cases h6 : 20000 < n
        · exact .inl ⟨decide_eq_true h5, decide_eq_true h6⟩
        · exact .inr ⟨.inr ⟨decide_eq_true h5, decide_eq_false h6⟩, hg⟩
      · exact .inr ⟨.inl (decide_eq_false h5), hg⟩
    rcases hcase with ⟨t1, t2⟩ | ⟨ht, hg⟩
    · go_enter Try.func9, Try.ntmps9
      go_wp2_with fail
      refine (alive _).mono ?_
      rintro e w1 ⟨rfl, hb⟩
      have HB1 := Aside0.mk (below_step HB.out hb)
      clear hb HB
      go_wp2_with fail
      refine (H1.out _).mono ?_
      rintro e w2 ⟨rfl, hb⟩
      have HB2 := Aside0.mk (below_step HB1.out hb)
      clear hb HB1
      go_wp2_with fail
      refine (H2.out _).mono ?_
      rintro e w3 ⟨rfl, hb⟩
      have HB3 := Aside0.mk (below_step HB2.out hb)
      clear hb HB2
      go_wp2_with fail
      go_ret
      exact ⟨rfl, HB3.out⟩
    · rcases ht with t1 | ⟨t1, t2⟩
      all_goals
        rcases hg with g1 | ⟨g1, g2, g3⟩
      all_goals
        go_enter Try.func9, Try.ntmps9
        go_wp2_with fail
        refine (alive _).mono ?_
        rintro e w1 ⟨rfl, hb⟩
        have HB1 := Aside0.mk (below_step HB.out hb)
        clear hb HB
        go_wp2_with fail
        refine (H1.out _).mono ?_
        rintro e w2 ⟨rfl, hb⟩
        have HB2 := Aside0.mk (below_step HB1.out hb)
        clear hb HB1
        go_wp2_with fail
        refine (H2.out _).mono ?_
        rintro e w3 ⟨rfl, hb⟩
        have HB3 := Aside0.mk (below_step HB2.out hb)
        clear hb HB2
        go_wp2_with fail
        refine (H3.out _).mono ?_
        rintro e w4 ⟨rfl, hb⟩
        have HB4 := Aside0.mk (below_step HB3.out hb)
        clear hb HB3
        go_wp2_with fail
        refine (H4.out _).mono ?_
        rintro e w5 ⟨rfl, hb⟩
        have HB5 := Aside0.mk (below_step HB4.out hb)
        clear hb HB4
        go_wp2_with fail
        go_ret
        exact ⟨rfl, HB5.out⟩
end Go.Proofs.Ytpceignbgnekmaa.Sn
