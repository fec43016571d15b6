/- snap.Unpack, by a contract. -/
import Derived.Test.YtpceignbgnekmaaSnF
namespace Go.Proofs.Ytpceignbgnekmaa.Sn
open Go.RowKit Go.Proofs.YtpceignbgnekmaaW.PrintWords Go.Proofs.Ytpceignbgnekmaa.By Go.Proofs.Ytpceignbgnekmaa.Md Go.Proofs.Ytpceignbgnekmaa.Cur Go.Proofs.Ytpceignbgnekmaa.Next

set_option maxRecDepth 100000 in
set_option maxHeartbeats 1000000 in
theorem unpack_err (s : ByteArray) (hs : s.size ≤ 140737488351232) (most : Int) (M : Value) (w : World) (e' : Int) (he : (szF s).2.2 ≠ 0 ∧ (szF s).2.2 = e' ∨ (szF s).2.2 = 0 ∧ most < (szF s).1 ∧ e' = 5) :
    Calls Try.prog 29 #[.string s, .int .i64 most, M] w fun e w' => S2 (⟨#[]⟩, e') e ∧ Below w.heap.size w w' := by
  have hz := size_calls s hs w
  generalize szF s = r at hz he
  obtain ⟨n, k, e⟩ := r
  have HZ := Aside0.mk hz
  clear hz hs
  dsimp only at he
  rcases he with ⟨he, rfl⟩ | ⟨he, hm, rfl⟩
  · have heb : (e != 0) = true := bne_iff_ne.mpr he
    go_enter Try.func29, Try.ntmps29
    go_wp2_with fail
    refine HZ.out.mono ?_
    rintro e w1 ⟨rfl, hb1⟩
    have HB := Aside0.mk hb1
    clear hb1 HZ
    go_wp2_with fail
    go_ret2
    exact ⟨rfl, HB.out⟩
  · subst he
    have hmb : decide (most < n) = true := decide_eq_true hm
    go_enter Try.func29, Try.ntmps29
    go_wp2_with fail
    refine HZ.out.mono ?_
    rintro e w1 ⟨rfl, hb1⟩
    have HB := Aside0.mk hb1
    clear hb1 HZ
    go_wp2_with fail
    go_ret2
    exact ⟨rfl, HB.out⟩

set_option maxRecDepth 100000 in
set_option maxHeartbeats 1000000 in
theorem unpack_over (s : ByteArray) (hs : s.size ≤ 140737488351232) (most n k : Int) (g : Nat) (w : World) (hz : szF s = (n, k, 0)) (hm : n ≤ most) (T : World → World → Prop)
    (hT : ∀ W, Below w.heap.size w W → Calls Try.prog 47 #[Ptr g, .int .i64 n] W fun e w' => e = .returned (.int .i64 5) ∧ T W w') :
    Calls Try.prog 29 #[.string s, .int .i64 most, Ptr g] w fun e w' => S2 (⟨#[]⟩, 5) e ∧ ∃ W, Below w.heap.size w W ∧ T W w' := by
  have hz' := size_calls s hs w
  rw [hz] at hz'
  have HZ := Aside0.mk hz'
  have HT := Aside0.mk hT
  clear hz hs hz' hT
  have hmb : decide (most < n) = false := decide_eq_false (by omega)
  go_enter Try.func29, Try.ntmps29
  go_wp2_with fail
  refine HZ.out.mono ?_
  rintro e w1 ⟨rfl, hb1⟩
  have HB := Aside0.mk hb1
  clear hb1 HZ
  go_wp2_with fail
  refine (HT.out _ HB.out).mono ?_
  rintro e w2 ⟨rfl, ht⟩
  have HTT := Aside0.mk ht
  clear ht HT
  go_wp2_with fail
  go_ret2
  exact ⟨rfl, _, HB.out, HTT.out⟩

set_option maxRecDepth 100000 in
set_option maxHeartbeats 4000000 in
theorem unpack_ok (s : ByteArray) (hs : s.size ≤ 140737488351232) (most n k : Int) (M : Value) (w : World) (hz : szF s = (n, k, 0)) (hm : n ≤ most) (T : World → World → Prop)
    (hT : (M = .pointer none ∧ ∀ W, T W W) ∨ (∃ g, M = Ptr g ∧ ∀ W, Below w.heap.size w W → Calls Try.prog 47 #[Ptr g, .int .i64 n] W fun e w' => e = .returned (.int .i64 0) ∧ T W w')) :
    Calls Try.prog 29 #[.string s, .int .i64 most, M] w fun e w' => S2 (fin n (run n (s.extract k.toNat s.size) ((s.extract k.toNat s.size).size + 1) [] 0)) e ∧ ∃ W w1, Below w.heap.size w W ∧ T W w1 ∧ Below w1.heap.size w1 w' := by
  have hz' := size_calls s hs w
  have hok := szF_ok s
  rw [hz] at hz' hok
  obtain ⟨h0, h1, h2, h3⟩ : 0 ≤ n ∧ n ≤ 4294967295 ∧ 0 < k ∧ k ≤ s.size := by
    rcases hok with ⟨_, h⟩ | ⟨h, _⟩
    · exact h
    · exact absurd rfl h
  obtain ⟨t, ht⟩ : ∃ t, s.extract k.toNat s.size = t := ⟨_, rfl⟩
  have hts : t.size ≤ 140737488351232 := by rw [← ht, ByteArray.size_extract]; omega
  obtain ⟨kn, rfl⟩ := Int.eq_ofNat_of_zero_le (show 0 ≤ k by omega)
  rw [Int.toNat_natCast] at ht ⊢
  rw [ht]
  obtain ⟨R, hR⟩ : ∃ R, run n t (t.size + 1) [] 0 = R := ⟨_, rfl⟩
  rw [hR]
  have HZ := Aside0.mk hz'
  have HRR := Aside0.mk hR
  clear hz hz' hok hR
  have hmb : decide (most < n) = false := decide_eq_false (by omega)
  have hrun : ∀ fuel xs a, Aside0 (a < t.size → run n t (fuel + 1) xs a = if (elem n t (xs, a + 1, 0) (vk t a) (kk t a)).2.2 = 0 then run n t fuel (elem n t (xs, a + 1, 0) (vk t a) (kk t a)).1 (elem n t (xs, a + 1, 0) (vk t a) (kk t a)).2.1 else ((elem n t (xs, a + 1, 0) (vk t a) (kk t a)).1, (elem n t (xs, a + 1, 0) (vk t a) (kk t a)).2.2)) := by
    intro fuel xs a
    refine ⟨fun ha => ?_⟩
    rw [run, if_pos ha]
  rcases hT with ⟨rfl, hT⟩ | ⟨g, rfl, hT⟩
  · have HT := Aside0.mk hT
    clear hT
    go_enter Try.func29, Try.ntmps29
    go_wp2_with fail
    refine HZ.out.mono ?_
    rintro e wm ⟨rfl, hb1⟩
    have HB := Aside0.mk hb1
    have HM : Aside0 (∃ W, Below w.heap.size w W ∧ T W wm) := ⟨wm, hb1, HT.out wm⟩
    clear hb1 HZ HB HT
    go_wp2_with fail
    refine (read_calls wm t).mono ?_
    rintro e w2 ⟨rfl, hr2, hb2⟩
    obtain ⟨B, hB⟩ : ∃ B, wm.heap.size = B := ⟨_, rfl⟩
    rw [hB] at hr2 hb2 ⊢
    have hB2 : B ≤ w2.heap.size := by rw [← hB]; exact hb2.size
    have HR2 := Aside0.mk hr2
    have HB2 := Aside0.mk hb2
    have HBB := Aside0.mk hB
    clear hr2 hb2 hB
    go_wp2_with fail
    have H3 := Aside0.mk (Un.start (B0 := B) (blk_new w2 (.cells #[Ptr B, .slice none 0 0, .int .i64 n] 73)) (blk_alloc HR2.out _) hB2 (Nat.le_refl _))
    have HB3 := Aside0.mk (HB2.out.alloc hB2 (.cells #[Ptr B, .slice none 0 0, .int .i64 n] 73))
    have hB3 : B ≤ (w2.alloc (.cells #[Ptr B, .slice none 0 0, .int .i64 n] 73)).heap.size := Nat.le_trans hB2 (by simp)
    obtain ⟨U, hU⟩ : ∃ U, w2.heap.size = U := ⟨_, rfl⟩
    rw [hU] at H3 ⊢
    generalize w2.alloc (.cells #[Ptr B, .slice none 0 0, .int .i64 n] 73) = w3 at H3 HB3 hB3 ⊢
    go_loopg [] (t.size + 1) (fun kq wr => ∃ (xs : List Int) (a : Nat) (f : Int) (A : Option Addr) (c : Nat), a ≤ t.size ∧ (xs.length : Int) ≤ n ∧ Aside0 (InByte xs) ∧ Aside0 (Un B wr U B A c xs n t a f) ∧ Aside0 (Below B wm wr) ∧ B ≤ wr.heap.size ∧ Aside0 (t.size - a < kq) ∧ Aside0 ((f = 0 → run n t kq xs a = R) ∧ (f ≠ 0 → R = (xs, f))))
    case atStart => exact ⟨[], 0, 0, none, 0, by omega, by simpa using h0, ⟨InByte.nil⟩, H3, HB3, hB3, ⟨by omega⟩, ⟨fun _ => HRR.out, fun h => absurd rfl h⟩⟩
    case round =>
      clear H3 HB3 HR2 HB2 HRR
      obtain ⟨xs, a, f, A, c, ha, hxl, HI, HU, HBr, hBr, HK, HE⟩ := hrel
      have c0 := HU.out.c0
      obtain ⟨L, hL⟩ : ∃ L : Int, L = ((t.size - a : Nat) : Int) := ⟨_, rfl⟩
      have hl := left_calls wr B t a f HU.out.rd ha (by omega)
      rw [← hL] at hl
      have HLC := Aside0.mk hl
      have hcase : (a < t.size ∧ f = 0 ∧ decide (0 < L) = true ∧ (f == 0) = true) ∨ (R = (xs, f) ∧ (decide (0 < L) = false ∨ (decide (0 < L) = true ∧ (f == 0) = false))) := by
        by_cases h1 : a < t.size
        · have h2 : decide (0 < L) = true := decide_eq_true (by omega)
          by_cases h3 : f = 0
          · exact .inl ⟨h1, h3, h2, beq_iff_eq.2 h3⟩
          · exact .inr ⟨HE.out.2 h3, .inr ⟨h2, beq_eq_false_iff_ne.mpr h3⟩⟩
        · have h2 : decide (0 < L) = false := decide_eq_false (by omega)
          refine .inr ⟨?_, .inl h2⟩
          by_cases h3 : f = 0
          · rw [← HE.out.1 h3, h3]
            cases gk with
            | zero => rfl
            | succ gk => rw [run, if_neg h1]
          · exact HE.out.2 h3
      clear hl hL
      go_wp2_with fail
      refine HLC.out.mono ?_
      rintro e w5 ⟨rfl, ⟨⟨nd, rfl⟩⟩⟩
      have H5 := Aside0.mk (HU.out.drewN nd)
      have HB5 : Aside0 (Below B wm (wr.drewN nd)) := ⟨pw_below_drewN HBr.out nd⟩
      have hB5 : B ≤ (wr.drewN nd).heap.size := hBr
      generalize wr.drewN nd = w5 at H5 HB5 hB5 ⊢
      clear HLC HU HBr c0 hBr
      have c0 := H5.out.c0
      rcases hcase with ⟨ha', rfl, hb1, hb2⟩ | ⟨rfl, hex⟩
      · go_wp2_with fail
        refine (fault_calls _ B t a 0 H5.out.rd).mono ?_
        rintro e w6 ⟨rfl, rfl⟩
        go_wp2_with fail
        obtain ⟨q1, q2, q3⟩ := head_eq t a
        have hstep := elem_step n t xs (a + 1) (vk t a) (kk t a) hxl HI.out ha'
        have hel := elem_calls B wm w5 U B A c xs n t a H5.out HB5.out hB5 h0 h1 hxl ha' hts (vk t a) (kk t a) q2 q3 q1
        have hru := fun fuel => (hrun fuel xs a).out ha'
        have HE1 := HE.out.1 (by first | trivial | rfl)
        have hk1 := HK.out
        obtain ⟨σ, hσ⟩ : ∃ σ, elem n t (xs, a + 1, 0) (vk t a) (kk t a) = σ := ⟨_, rfl⟩
        rw [hσ] at hstep hel hru
        obtain ⟨kr, rfl⟩ : ∃ kr, gk = kr + 1 := ⟨gk - 1, by omega⟩
        rw [hru] at HE1
        have HRU := Aside0.mk HE1
        have HST := Aside0.mk hstep
        have HEL := Aside0.mk hel
        clear hstep hel hru HE1 HE hσ q1 q2 q3 hrun hb1 hb2
        refine HEL.out.mono ?_
        rintro e w6 ⟨rfl, A2, c2, hu2, hb2, hz2⟩
        have HU2 := Aside0.mk hu2
        have HB6 := Aside0.mk hb2
        clear hu2 hb2 HEL
        go_wp2_with fail
        go_roundg kr
        case measure => omega
        case rel =>
          obtain ⟨g1, g2, g3, g4⟩ := HST.out
          refine ⟨σ.1, σ.2.1, σ.2.2, A2, c2, g3, g1, ⟨g4⟩, HU2, HB6, Nat.le_trans hB5 hz2, ⟨by omega⟩, ⟨fun h => ?_, fun h => ?_⟩⟩
          · have := HRU.out
            rw [if_pos h] at this
            exact this
          · have := HRU.out
            rw [if_neg h] at this
            exact this.symm
      · have c1 := H5.out.c1
        clear HE HK HI hrun
        by_cases hlt : (xs.length : Int) < n
        · have hltb : decide ((xs.length : Int) < n) = true := decide_eq_true hlt
          have hfc := fail_calls w5 B t a f H5.out.rd 2
          obtain ⟨f1, hf1⟩ : ∃ f1, (if f = 0 then 2 else f) = f1 := ⟨_, rfl⟩
          rw [hf1] at hfc
          have hf1b : (f1 != 0) = true := bne_iff_ne.mpr (by rw [← hf1]; split <;> omega)
          have efin : fin n (xs, f) = (⟨#[]⟩, f1) := by
            unfold fin
            dsimp only
            by_cases hf : f = 0
            · rw [if_neg (fun h => h hf), if_pos hlt, ← hf1, if_pos hf]
            · rw [if_pos hf, ← hf1, if_neg hf]
          have HEF := Aside0.mk efin
          have HF := Aside0.mk hfc
          clear hfc efin hf1
          rcases hex with hb1 | ⟨hb1, hb2⟩
          all_goals
            go_wp2_with (go_at_call 26; refine (fault_calls _ B t a f H5.out.rd).mono ?_; rintro e w6 ⟨rfl, rfl⟩)
            refine HF.out.mono ?_
            rintro e w7 ⟨rfl, hr7, hm7⟩
            have HR7 := Aside0.mk hr7
            have c7 := (H5.out.reader hm7 hr7).c0
            have HB7 := Aside0.mk (hm7.below HB5.out hB5 (by rintro i rfl; exact Nat.le_refl _))
            clear hr7 hm7 HF c0 c1
            go_wp2_with fail
            refine (fault_calls _ B t a f1 HR7.out).mono ?_
            rintro e w8 ⟨rfl, rfl⟩
            go_wp2_with fail
            go_ret2
            obtain ⟨W, h5, h6⟩ := HM.out
            exact ⟨by rw [HEF.out]; rfl, W, wm, h5, h6, by rw [HBB.out]; exact HB7.out⟩
        · have hltb : decide ((xs.length : Int) < n) = false := decide_eq_false hlt
          by_cases hf : f = 0
          · have hfb : (f != 0) = false := by rw [hf]; rfl
            have efin : fin n (xs, f) = (strOfNums xs, 0) := by
              unfold fin
              dsimp only
              rw [if_neg (fun h => h hf), if_neg hlt]
            have HEF := Aside0.mk efin
            have hcv := H5.out.str
            clear efin
            rcases hex with hb1 | ⟨hb1, hb2⟩
            · go_wp2_with (go_at_call 26; refine (fault_calls _ B t a f H5.out.rd).mono ?_; rintro e w6 ⟨rfl, rfl⟩)
              go_ret2
              obtain ⟨W, h5, h6⟩ := HM.out
              exact ⟨by rw [HEF.out]; rfl, W, wm, h5, h6, by rw [HBB.out]; exact HB5.out⟩
            · rw [hf] at hb2
              exact absurd hb2 (by decide)
          · have hfb : (f != 0) = true := bne_iff_ne.mpr hf
            have efin : fin n (xs, f) = (⟨#[]⟩, f) := by
              unfold fin
              dsimp only
              rw [if_pos hf]
            have HEF := Aside0.mk efin
            clear efin
            rcases hex with hb1 | ⟨hb1, hb2⟩
            all_goals
              go_wp2_with (go_at_call 26; refine (fault_calls _ B t a f H5.out.rd).mono ?_; rintro e w6 ⟨rfl, rfl⟩)
              go_ret2
              obtain ⟨W, h5, h6⟩ := HM.out
              exact ⟨by rw [HEF.out]; rfl, W, wm, h5, h6, by rw [HBB.out]; exact HB5.out⟩
  · have HT := Aside0.mk hT
    clear hT
    go_enter Try.func29, Try.ntmps29
    go_wp2_with fail
    refine HZ.out.mono ?_
    rintro e w9 ⟨rfl, hb1⟩
    have HB := Aside0.mk hb1
    clear hb1 HZ
    go_wp2_with fail
    refine (HT.out _ HB.out).mono ?_
    rintro e wm ⟨rfl, ht9⟩
    have HM : Aside0 (∃ W, Below w.heap.size w W ∧ T W wm) := ⟨w9, HB.out, ht9⟩
    clear ht9 HT HB
    go_wp2_with fail
    refine (read_calls wm t).mono ?_
    rintro e w2 ⟨rfl, hr2, hb2⟩
    obtain ⟨B, hB⟩ : ∃ B, wm.heap.size = B := ⟨_, rfl⟩
    rw [hB] at hr2 hb2 ⊢
    have hB2 : B ≤ w2.heap.size := by rw [← hB]; exact hb2.size
    have HR2 := Aside0.mk hr2
    have HB2 := Aside0.mk hb2
    have HBB := Aside0.mk hB
    clear hr2 hb2 hB
    go_wp2_with fail
    have H3 := Aside0.mk (Un.start (B0 := B) (blk_new w2 (.cells #[Ptr B, .slice none 0 0, .int .i64 n] 73)) (blk_alloc HR2.out _) hB2 (Nat.le_refl _))
    have HB3 := Aside0.mk (HB2.out.alloc hB2 (.cells #[Ptr B, .slice none 0 0, .int .i64 n] 73))
    have hB3 : B ≤ (w2.alloc (.cells #[Ptr B, .slice none 0 0, .int .i64 n] 73)).heap.size := Nat.le_trans hB2 (by simp)
    obtain ⟨U, hU⟩ : ∃ U, w2.heap.size = U := ⟨_, rfl⟩
    rw [hU] at H3 ⊢
    generalize w2.alloc (.cells #[Ptr B, .slice none 0 0, .int .i64 n] 73) = w3 at H3 HB3 hB3 ⊢
    go_loopg [] (t.size + 1) (fun kq wr => ∃ (xs : List Int) (a : Nat) (f : Int) (A : Option Addr) (c : Nat), a ≤ t.size ∧ (xs.length : Int) ≤ n ∧ Aside0 (InByte xs) ∧ Aside0 (Un B wr U B A c xs n t a f) ∧ Aside0 (Below B wm wr) ∧ B ≤ wr.heap.size ∧ Aside0 (t.size - a < kq) ∧ Aside0 ((f = 0 → run n t kq xs a = R) ∧ (f ≠ 0 → R = (xs, f))))
    case atStart => exact ⟨[], 0, 0, none, 0, by omega, by simpa using h0, ⟨InByte.nil⟩, H3, HB3, hB3, ⟨by omega⟩, ⟨fun _ => HRR.out, fun h => absurd rfl h⟩⟩
    case round =>
      clear H3 HB3 HR2 HB2 HRR
      obtain ⟨xs, a, f, A, c, ha, hxl, HI, HU, HBr, hBr, HK, HE⟩ := hrel
      have c0 := HU.out.c0
      obtain ⟨L, hL⟩ : ∃ L : Int, L = ((t.size - a : Nat) : Int) := ⟨_, rfl⟩
      have hl := left_calls wr B t a f HU.out.rd ha (by omega)
      rw [← hL] at hl
      have HLC := Aside0.mk hl
      have hcase : (a < t.size ∧ f = 0 ∧ decide (0 < L) = true ∧ (f == 0) = true) ∨ (R = (xs, f) ∧ (decide (0 < L) = false ∨ (decide (0 < L) = true ∧ (f == 0) = false))) := by
        by_cases h1 : a < t.size
        · have h2 : decide (0 < L) = true := decide_eq_true (by omega)
          by_cases h3 : f = 0
          · exact .inl ⟨h1, h3, h2, beq_iff_eq.2 h3⟩
          · exact .inr ⟨HE.out.2 h3, .inr ⟨h2, beq_eq_false_iff_ne.mpr h3⟩⟩
        · have h2 : decide (0 < L) = false := decide_eq_false (by omega)
          refine .inr ⟨?_, .inl h2⟩
          by_cases h3 : f = 0
          · rw [← HE.out.1 h3, h3]
            cases gk with
            | zero => rfl
            | succ gk => rw [run, if_neg h1]
          · exact HE.out.2 h3
      clear hl hL
      go_wp2_with fail
      refine HLC.out.mono ?_
      rintro e w5 ⟨rfl, ⟨⟨nd, rfl⟩⟩⟩
      have H5 := Aside0.mk (HU.out.drewN nd)
      have HB5 : Aside0 (Below B wm (wr.drewN nd)) := ⟨pw_below_drewN HBr.out nd⟩
      have hB5 : B ≤ (wr.drewN nd).heap.size := hBr
      generalize wr.drewN nd = w5 at H5 HB5 hB5 ⊢
      clear HLC HU HBr c0 hBr
      have c0 := H5.out.c0
      rcases hcase with ⟨ha', rfl, hb1, hb2⟩ | ⟨rfl, hex⟩
      · go_wp2_with fail
        refine (fault_calls _ B t a 0 H5.out.rd).mono ?_
        rintro e w6 ⟨rfl, rfl⟩
        go_wp2_with fail
        obtain ⟨q1, q2, q3⟩ := head_eq t a
        have hstep := elem_step n t xs (a + 1) (vk t a) (kk t a) hxl HI.out ha'
        have hel := elem_calls B wm w5 U B A c xs n t a H5.out HB5.out hB5 h0 h1 hxl ha' hts (vk t a) (kk t a) q2 q3 q1
        have hru := fun fuel => (hrun fuel xs a).out ha'
        have HE1 := HE.out.1 (by first | trivial | rfl)
        have hk1 := HK.out
        obtain ⟨σ, hσ⟩ : ∃ σ, elem n t (xs, a + 1, 0) (vk t a) (kk t a) = σ := ⟨_, rfl⟩
        rw [hσ] at hstep hel hru
        obtain ⟨kr, rfl⟩ : ∃ kr, gk = kr + 1 := ⟨gk - 1, by omega⟩
        rw [hru] at HE1
        have HRU := Aside0.mk HE1
        have HST := Aside0.mk hstep
        have HEL := Aside0.mk hel
        clear hstep hel hru HE1 HE hσ q1 q2 q3 hrun hb1 hb2
        refine HEL.out.mono ?_
        rintro e w6 ⟨rfl, A2, c2, hu2, hb2, hz2⟩
        have HU2 := Aside0.mk hu2
        have HB6 := Aside0.mk hb2
        clear hu2 hb2 HEL
        go_wp2_with fail
        go_roundg kr
        case measure => omega
        case rel =>
          obtain ⟨g1, g2, g3, g4⟩ := HST.out
          refine ⟨σ.1, σ.2.1, σ.2.2, A2, c2, g3, g1, ⟨g4⟩, HU2, HB6, Nat.le_trans hB5 hz2, ⟨by omega⟩, ⟨fun h => ?_, fun h => ?_⟩⟩
          · have := HRU.out
            rw [if_pos h] at this
            exact this
          · have := HRU.out
            rw [if_neg h] at this
            exact this.symm
      · have c1 := H5.out.c1
        clear HE HK HI hrun
        by_cases hlt : (xs.length : Int) < n
        · have hltb : decide ((xs.length : Int) < n) = true := decide_eq_true hlt
          have hfc := fail_calls w5 B t a f H5.out.rd 2
          obtain ⟨f1, hf1⟩ : ∃ f1, (if f = 0 then 2 else f) = f1 := ⟨_, rfl⟩
          rw [hf1] at hfc
          have hf1b : (f1 != 0) = true := bne_iff_ne.mpr (by rw [← hf1]; split <;> omega)
          have efin : fin n (xs, f) = (⟨#[]⟩, f1) := by
            unfold fin
            dsimp only
            by_cases hf : f = 0
            · rw [if_neg (fun h => h hf), if_pos hlt, ← hf1, if_pos hf]
            · rw [if_pos hf, ← hf1, if_neg hf]
          have HEF := Aside0.mk efin
          have HF := Aside0.mk hfc
          clear hfc efin hf1
          rcases hex with hb1 | ⟨hb1, hb2⟩
          all_goals
            go_wp2_with (go_at_call 26; refine (fault_calls _ B t a f H5.out.rd).mono ?_; rintro e w6 ⟨rfl, rfl⟩)
            refine HF.out.mono ?_
            rintro e w7 ⟨rfl, hr7, hm7⟩
            have HR7 := Aside0.mk hr7
            have c7 := (H5.out.reader hm7 hr7).c0
            have HB7 := Aside0.mk (hm7.below HB5.out hB5 (by rintro i rfl; exact Nat.le_refl _))
            clear hr7 hm7 HF c0 c1
            go_wp2_with fail
            refine (fault_calls _ B t a f1 HR7.out).mono ?_
            rintro e w8 ⟨rfl, rfl⟩
            go_wp2_with fail
            go_ret2
            obtain ⟨W, h5, h6⟩ := HM.out
            exact ⟨by rw [HEF.out]; rfl, W, wm, h5, h6, by rw [HBB.out]; exact HB7.out⟩
        · have hltb : decide ((xs.length : Int) < n) = false := decide_eq_false hlt
          by_cases hf : f = 0
          · have hfb : (f != 0) = false := by rw [hf]; rfl
            have efin : fin n (xs, f) = (strOfNums xs, 0) := by
              unfold fin
              dsimp only
              rw [if_neg (fun h => h hf), if_neg hlt]
            have HEF := Aside0.mk efin
            have hcv := H5.out.str
            clear efin
            rcases hex with hb1 | ⟨hb1, hb2⟩
            · go_wp2_with (go_at_call 26; refine (fault_calls _ B t a f H5.out.rd).mono ?_; rintro e w6 ⟨rfl, rfl⟩)
              go_ret2
              obtain ⟨W, h5, h6⟩ := HM.out
              exact ⟨by rw [HEF.out]; rfl, W, wm, h5, h6, by rw [HBB.out]; exact HB5.out⟩
            · rw [hf] at hb2
              exact absurd hb2 (by decide)
          · have hfb : (f != 0) = true := bne_iff_ne.mpr hf
            have efin : fin n (xs, f) = (⟨#[]⟩, f) := by
              unfold fin
              dsimp only
              rw [if_pos hf]
            have HEF := Aside0.mk efin
            clear efin
            rcases hex with hb1 | ⟨hb1, hb2⟩
            all_goals
              go_wp2_with (go_at_call 26; refine (fault_calls _ B t a f H5.out.rd).mono ?_; rintro e w6 ⟨rfl, rfl⟩)
              go_ret2
              obtain ⟨W, h5, h6⟩ := HM.out
              exact ⟨by rw [HEF.out]; rfl, W, wm, h5, h6, by rw [HBB.out]; exact HB5.out⟩
end Go.Proofs.Ytpceignbgnekmaa.Sn
