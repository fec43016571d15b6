/- snap, the document's Unpack, and the law of all bytes. -/
import Derived.Test.YtpceignbgnekmaaSnG
import Derived.Test.YtpceignbgnekmaaSnJ
namespace Go.Proofs.Ytpceignbgnekmaa.Sn
open Go.RowKit Go.Proofs.YtpceignbgnekmaaW.PrintWords Go.Proofs.Ytpceignbgnekmaa.By Go.Proofs.Ytpceignbgnekmaa.Md Go.Proofs.Ytpceignbgnekmaa.Cur Go.Proofs.Ytpceignbgnekmaa.Next

/-- what a block has unpacked, or the error -/
def outF (s : ByteArray) (most : Int) : ByteArray × Int :=
  let r := szF s
  if r.2.2 ≠ 0 then (⟨#[]⟩, r.2.2) else if most < r.1 then (⟨#[]⟩, 5)
  else fin r.1 (run r.1 (s.extract r.2.1.toNat s.size) ((s.extract r.2.1.toNat s.size).size + 1) [] 0)

theorem unpack_nil (s : ByteArray) (hs : s.size ≤ 140737488351232) (most : Int) (w : World) :
    Calls Try.prog 29 #[.string s, .int .i64 most, .pointer none] w fun e w' => S2 (outF s most) e ∧ Below w.heap.size w w' := by
  have hne := unpack_err s hs most (.pointer none) w
  have hok := unpack_ok s hs most
  unfold outF
  rcases hz : szF s with ⟨n, k, e⟩
  rw [hz] at hne
  dsimp only at hne ⊢
  by_cases he : e = 0
  · subst he
    rw [if_neg (fun h => h rfl)]
    by_cases hm : most < n
    · rw [if_pos hm]
      exact hne 5 (.inr ⟨rfl, hm, rfl⟩)
    · rw [if_neg hm]
      refine (hok n k (.pointer none) w hz (by omega) (fun W W' => W = W') (.inl ⟨rfl, fun _ => rfl⟩)).mono ?_
      rintro e w' ⟨h1, W, w1, h2, rfl, h3⟩
      exact ⟨h1, below_step h2 h3⟩
  · rw [if_pos he]
    exact hne e (.inl ⟨he, rfl⟩)

set_option maxRecDepth 100000 in
set_option maxHeartbeats 1000000 in
theorem refsize_calls (s : ByteArray) (hs : s.size ≤ 140737488351232) (w : World) :
    Calls Try.prog 35 #[.string s] w fun e w' => U3 (szF s) e ∧ Below w.heap.size w w' := by
  have hn := Leb.ref_calls s hs w
  have hk := nx_ok s
  unfold szF
  rcases hr : nx s (s.size + 1) 0 0 with ⟨n, k, e⟩
  rw [hr] at hn hk
  have HN := Aside0.mk hn
  dsimp only
  by_cases he : e = 0
  · subst he
    obtain ⟨h0, h1, h2, h3⟩ := hk n k rfl
    rw [if_pos rfl]
    by_cases hb : 4294967295 < n
    · have hbb : decide (4294967295 < n) = true := decide_eq_true hb
      rw [if_pos hb]
      clear hn hr hk
      go_enter Try.func35, Try.ntmps35
      go_wp2_with fail
      refine HN.out.mono ?_
      rintro e w1 ⟨rfl, hb1⟩
      have HB := Aside0.mk hb1
      clear hb1 HN
      go_wp2_with fail
      go_ret3
      exact ⟨rfl, HB.out⟩
    · have hbb : decide (4294967295 < n) = false := decide_eq_false hb
      rw [if_neg hb]
      clear hn hr hk
      go_enter Try.func35, Try.ntmps35
      go_wp2_with fail
      refine HN.out.mono ?_
      rintro e w1 ⟨rfl, hb1⟩
      have HB := Aside0.mk hb1
      clear hb1 HN
      go_wp2_with fail
      go_ret3
      exact ⟨rfl, HB.out⟩
  · rw [if_neg he]
    have hec : (e != 0) = true := bne_iff_ne.mpr he
    clear hn hr hk
    go_enter Try.func35, Try.ntmps35
    go_wp2_with fail
    refine HN.out.mono ?_
    rintro e w1 ⟨rfl, hb1⟩
    have HB := Aside0.mk hb1
    clear hb1 HN
    go_wp2_with fail
    go_ret3
    exact ⟨rfl, HB.out⟩

set_option maxRecDepth 100000 in
set_option maxHeartbeats 1000000 in
theorem refunpack_calls (s : ByteArray) (hs : s.size ≤ 140737488351232) (most : Int) (w : World) :
    Calls Try.prog 30 #[.string s, .int .i64 most] w fun e w' => S2 (outF s most) e ∧ Below w.heap.size w w' := by
  have hz' := refsize_calls s hs w
  have hok := szF_ok s
  unfold outF
  rcases hz : szF s with ⟨n, k, e⟩
  rw [hz] at hz' hok
  have HZ := Aside0.mk hz'
  have HB0 := Aside0.mk (Below.refl w.heap.size w)
  clear hz hz'
  dsimp only
  by_cases he : e = 0
  · subst he
    rw [if_neg (fun h => h rfl)]
    obtain ⟨h0, h1, h2, h3⟩ : 0 ≤ n ∧ n ≤ 4294967295 ∧ 0 < k ∧ k ≤ s.size := by
      rcases hok with ⟨_, h⟩ | ⟨h, _⟩
      · exact h
      · exact absurd rfl h
    by_cases hm : most < n
    · have hmb : decide (most < n) = true := decide_eq_true hm
      rw [if_pos hm]
      clear hok
      go_enter Try.func30, Try.ntmps30
      go_wp2_with fail
      refine HZ.out.mono ?_
      rintro e w1 ⟨rfl, hb1⟩
      have HB := Aside0.mk hb1
      clear hb1 HZ
      go_wp2_with fail
      go_ret2
      exact ⟨rfl, HB.out⟩
    · have hmb : decide (most < n) = false := decide_eq_false hm
      rw [if_neg hm]
      clear hok
      obtain ⟨t, ht⟩ : ∃ t, s.extract k.toNat s.size = t := ⟨_, rfl⟩
      have hts : t.size ≤ 140737488351232 := by rw [← ht, ByteArray.size_extract]; omega
      obtain ⟨kn, rfl⟩ := Int.eq_ofNat_of_zero_le (show 0 ≤ k by omega)
      rw [Int.toNat_natCast] at ht
      rw [Int.toNat_natCast, ht]
      obtain ⟨r, hr⟩ : ∃ r, fin n (run n t (t.size + 1) [] 0) = r := ⟨_, rfl⟩
      have hel := fun W => elements_calls t n hts h0 h1 W
      rw [hr] at hel ⊢
      have HEL := Aside0.mk hel
      clear hel hr
      go_enter Try.func30, Try.ntmps30
      go_wp2_with fail
      refine HZ.out.mono ?_
      rintro e w1 ⟨rfl, hb1⟩
      have HB := Aside0.mk hb1
      clear hb1 HZ
      go_wp2_with fail
      refine (HEL.out _).mono ?_
      rintro e w2 ⟨rfl, hb2⟩
      have HB2 := Aside0.mk (below_step HB.out hb2)
      clear hb2 HB
      go_wp2_with fail
      go_ret2
      exact ⟨rfl, HB2.out⟩
  · rw [if_pos he]
    have heb : (e != 0) = true := bne_iff_ne.mpr he
    clear hok
    go_enter Try.func30, Try.ntmps30
    go_wp2_with fail
    refine HZ.out.mono ?_
    rintro e w1 ⟨rfl, hb1⟩
    have HB := Aside0.mk hb1
    clear hb1 HZ
    go_wp2_with fail
    go_ret2
    exact ⟨rfl, HB.out⟩

theorem alive_out : outF ⟨#[5, 16, 97, 98, 99, 100, 101]⟩ 9 = (⟨#[97, 98, 99, 100, 101]⟩, 0) := by decide +kernel

set_option maxRecDepth 100000 in
set_option maxHeartbeats 1000000 in
theorem alive (w : World) : Calls Try.prog 33 #[] w fun e w' => e = .returned (.bool true) ∧ Below w.heap.size w w' := by
  have h := unpack_nil ⟨#[5, 16, 97, 98, 99, 100, 101]⟩ (by decide) 9 w
  rw [alive_out] at h
  have H := Aside0.mk h
  clear h
  go_enter Try.func33, Try.ntmps33
  go_wp2_with fail
  refine H.out.mono ?_
  rintro e w1 ⟨rfl, hb⟩
  have HB := Aside0.mk hb
  clear hb H
  go_wp2_with fail
  go_ret
  exact ⟨rfl, HB.out⟩

/-- what is unpacked is of the size that is told -/
theorem out_ok (s : ByteArray) (most : Int) (h : (outF s most).2 = 0) : ((outF s most).1.size : Int) = (szF s).1 ∧ (szF s).1 ≤ most := by
  have hrl : ∀ (n : Int) (t : ByteArray) (k : Nat) (xs : List Int) (a : Nat), (xs.length : Int) ≤ n → InByte xs → a ≤ t.size → ((run n t k xs a).1.length : Int) ≤ n := by
    intro n t k
    induction k with
    | zero => intro xs a h1 _ _; exact h1
    | succ k ih =>
      intro xs a h1 h2 h3
      rw [run]
      split
      · rename_i ha
        obtain ⟨g1, g2, g3, g4⟩ := elem_step n t xs (a + 1) (vk t a) (kk t a) h1 h2 ha
        dsimp only
        split
        · exact ih _ _ g1 g4 g3
        · exact g1
      · exact h1
  have hok := szF_ok s
  unfold outF at h ⊢
  rcases hz : szF s with ⟨n, k, e⟩
  rw [hz] at h hok
  dsimp only at h ⊢
  by_cases he : e ≠ 0
  · rw [if_pos he] at h
    exact absurd h he
  · rw [if_neg he] at h ⊢
    by_cases hm : most < n
    · rw [if_pos hm] at h
      exact absurd h (by decide)
    · rw [if_neg hm] at h ⊢
      refine ⟨?_, by omega⟩
      have h0 : 0 ≤ n := by
        rcases hok with h1 | ⟨h1, _⟩
        · exact h1.2.1
        · exact absurd h1 he
      have := hrl n (s.extract k.toNat s.size) ((s.extract k.toNat s.size).size + 1) [] 0 (by simpa using h0) InByte.nil (by omega)
      generalize run n (s.extract k.toNat s.size) ((s.extract k.toNat s.size).size + 1) [] 0 = r at h this ⊢
      unfold fin at h ⊢
      split at h
      · rename_i h1; exact absurd h h1
      · rename_i h1
        rw [if_neg h1]
        split at h
        · exact absurd h (by decide)
        · rename_i h2
          rw [if_neg h2, strOfNums_size]
          omega
end Go.Proofs.Ytpceignbgnekmaa.Sn
