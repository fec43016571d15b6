/- The document's elements, walked. -/
import Derived.Test.YtpceignbgnekmaaSnI
namespace Go.Proofs.Ytpceignbgnekmaa.Sn
open Go.RowKit Go.Proofs.YtpceignbgnekmaaW.PrintWords Go.Proofs.Ytpceignbgnekmaa.By Go.Proofs.Ytpceignbgnekmaa.Md Go.Proofs.Ytpceignbgnekmaa.Cur Go.Proofs.Ytpceignbgnekmaa.PSqueezePacks

theorem bt_from (t : ByteArray) (a : Nat) (ha : a < t.size) : bt (t.extract a t.size) 0 = bt t a := by
  have h1 : a < (bytesOf t).length := by rw [bytesOf_length]; exact ha
  have h2 : 0 < (bytesOf (t.extract a t.size)).length := by rw [bytesOf_length, ByteArray.size_extract]; omega
  rw [show (0 : Int) = ((0 : Nat) : Int) from rfl, bt_get _ 0 h2, bt_get t a h1]
  have e := bytes_extract t a t.size
  rw [List.take_of_length_le (by rw [bytesOf_length]; omega)] at e
  simp only [e, List.getElem_drop, Nat.add_zero]
theorem hd_le (v k : Nat) (hv : v ≤ 63) : 1 ≤ hd v k ∧ hd v k ≤ 5 := by
  unfold hd
  split
  · split <;> omega
  · split
    · omega
    · split <;> omega

set_option maxRecDepth 100000 in
set_option maxHeartbeats 4000000 in
theorem elements_calls (t : ByteArray) (n : Int) (hts : t.size ≤ 140737488351232) (h0 : 0 ≤ n) (h1 : n ≤ 4294967295) (w : World) :
    Calls Try.prog 49 #[.string t, .int .i64 n] w fun e w' => S2 (fin n (run n t (t.size + 1) [] 0)) e ∧ Below w.heap.size w w' := by
  obtain ⟨R, hR⟩ : ∃ R, run n t (t.size + 1) [] 0 = R := ⟨_, rfl⟩
  rw [hR]
  obtain ⟨B, hB⟩ : ∃ B, w.heap.size = B := ⟨_, rfl⟩
  rw [hB]
  have HO := Aside0.mk (show Ow B w w none 0 [] from ⟨World.ownsRow_nil _ _ _ _, Below.refl _ _, Nat.le_of_eq hB.symm⟩)
  have HRR := Aside0.mk hR
  clear hR hB
  have hrun : ∀ fuel xs a, Aside0 (a < t.size → run n t (fuel + 1) xs a = if (elem n t (xs, a + 1, 0) (vk t a) (kk t a)).2.2 = 0 then run n t fuel (elem n t (xs, a + 1, 0) (vk t a) (kk t a)).1 (elem n t (xs, a + 1, 0) (vk t a) (kk t a)).2.1 else ((elem n t (xs, a + 1, 0) (vk t a) (kk t a)).1, (elem n t (xs, a + 1, 0) (vk t a) (kk t a)).2.2)) := by
    intro fuel xs a
    refine ⟨fun ha => ?_⟩
    rw [run, if_pos ha]
  have h00 : t.extract 0 t.size = t := by apply bytes_inj; rw [bytes_extract, List.drop_zero, List.take_of_length_le (by rw [bytesOf_length]; omega)]
  go_enter Try.func49, Try.ntmps49
  go_wp2_with fail
  go_loopg [0, 6] (t.size + 1) (fun kq v0 v6 wr => ∃ (xs : List Int) (a : Nat) (A : Option Addr) (c : Nat) (s : ByteArray), v0 = .string s ∧ v6 = .slice A xs.length c ∧ a ≤ t.size ∧ Aside0 (s.size = t.size - a) ∧ Aside0 (s = t.extract a t.size) ∧ (xs.length : Int) ≤ n ∧ Aside0 (InByte xs) ∧ Aside0 (Ow B w wr A c xs) ∧ Aside0 (t.size - a < kq) ∧ Aside0 (run n t kq xs a = R))
  case atStart => exact ⟨[], 0, none, 0, t, rfl, rfl, by omega, ⟨by omega⟩, ⟨h00.symm⟩, by simpa using h0, ⟨InByte.nil⟩, HO, ⟨by omega⟩, HRR⟩
  case round =>
    clear HO HRR h00
    obtain ⟨xs, a, A, c, s, rfl, rfl, ha, HSZ, HS, hxl, HI, HO, HK, HE⟩ := hrel
    by_cases hlt : a < t.size
    · have hs0 : 0 < s.size := by have := HSZ.out; omega
      have hlb : decide (0 < s.size) = true := decide_eq_true hs0
      obtain ⟨q1, q2, q3⟩ := head_eq t a
      have hbt := bt_from t a hlt
      rw [← HS.out, q1] at hbt
      have hru := fun fuel => (hrun fuel xs a).out hlt
      have hk1 := HK.out
      obtain ⟨gr, rfl⟩ : ∃ gr, gk = gr + 1 := ⟨gk - 1, by omega⟩
      have HE1 := HE.out
      rw [hru gr] at HE1
      have hsh : s.size - 0 < hd (vk t a) (kk t a) → (elem n t (xs, a + 1, 0) (vk t a) (kk t a)).2.2 = 2 := fun h => elem_short hlt (by have := HSZ.out; omega)
      have hel0 : ¬ s.size < hd (vk t a) (kk t a) → kk t a = 0 → elem n t (xs, a + 1, 0) (vk t a) 0 = litN n t (xs, a + hd (vk t a) 0, 0) (litLen (vk t a) (t.extract (a + 1) (a + hd (vk t a) 0))) := by
        intro h hk
        rw [hk] at h
        exact elem_lit hlt (by have := HSZ.out; omega)
      have hel1 : ¬ s.size < hd (vk t a) (kk t a) → kk t a ≠ 0 → elem n t (xs, a + 1, 0) (vk t a) (kk t a) = cp n (xs, a + hd (vk t a) (kk t a), 0) (cpLen (vk t a) (kk t a)) (cpBack (vk t a) (kk t a) (t.extract (a + 1) (a + hd (vk t a) (kk t a)))) := by
        intro h hk
        exact elem_cp hk (by have := HSZ.out; omega)
      generalize vk t a = v at q1 q2 hbt HE1 hsh hel0 hel1
      generalize kk t a = k at q1 q3 hbt HE1 hsh hel0 hel1
      obtain ⟨b, hb⟩ : ∃ b : Int, b = ((4 * v + k : Nat) : Int) := ⟨_, rfl⟩
      have hx : ∀ h : 0 < s.size, ((s[0]'h).toNat : Int) = b := fun h => by rw [hb, ← hbt]; simp [bt, h]
      have hb0 : 0 ≤ b := by omega
      have hb1 : b < 256 := by omega
      have hb4 : b / 4 = (v : Int) := by omega
      have hb5 : b % 4 = (k : Int) := by omega
      have hhe := heads_calls v k q2 q3
      rw [← hb] at hhe
      obtain ⟨hh1, hh5⟩ := hd_le v k q2
      obtain ⟨hh, hhh⟩ : ∃ hh, hd v k = hh := ⟨_, rfl⟩
      rw [hhh] at hhe hh1 hh5 hsh hel1
      have HHE := Aside0.mk hhe
      have HRU := Aside0.mk HE1
      have HSH := Aside0.mk hsh
      have HL0 := Aside0.mk hel0
      have HL1 := Aside0.mk hel1
      have HHH := Aside0.mk hhh
      clear hb hbt hru HE HE1 hsh hel0 hel1 q1 hhe hhh hrun
      go_wp2_with fail
      refine (HHE.out wr).mono ?_
      rintro e w1 ⟨rfl, hd1⟩
      have HO1 := Aside0.mk (HO.out.drawn hd1)
      clear hd1 HO HHE
      by_cases hsk : s.size < hh
      · have hskb : decide (s.size < hh) = true := decide_eq_true hsk
        have hR2 : fin n R = (⟨#[]⟩, 2) := by
          have h2 := HSH.out hsk
          have h3 := HRU.out
          rw [h2, if_neg (by decide)] at h3
          rw [← h3]
          rfl
        have HR2 := Aside0.mk hR2
        clear hR2 hx
        go_wp2_with fail
        go_ret2
        exact ⟨by rw [HR2.out]; rfl, HO1.out.below⟩
      · have hskb : decide (s.size < hh) = false := decide_eq_false hsk
        have hgt : a + hh ≤ t.size := by have := HSZ.out; omega
        obtain ⟨rs, hrs⟩ : ∃ rs, s.extract 1 hh = rs := ⟨_, rfl⟩
        obtain ⟨s1, hs1⟩ : ∃ s1, s.extract hh s.size = s1 := ⟨_, rfl⟩
        have hsl : ∀ W, (Instr.slice 9 (.string s) (some (.int .i64 1)) (some (.int .i64 hh)) none).run Try.prog W = .ok (.string rs) W := fun W => by
          rw [← hrs]
          exact run_slice_string (P := Try.prog) (w := W) 9 s .i64 .i64 1 hh Try.underlying9 (by omega) (by omega) (by omega)
        have hrst : rs = t.extract (a + 1) (a + hh) := by
          rw [← hrs, HS.out]
          exact ext_ext t a t.size 1 hh ha (by omega) (by omega) (Nat.le_refl _)
        have hs1t : s1 = t.extract (a + hh) t.size := by
          rw [← hs1, HS.out, ByteArray.size_extract, Nat.min_self, ext_ext t a t.size hh (t.size - a) ha (by omega) (by omega) (Nat.le_refl _), show a + (t.size - a) = t.size by omega]
        have hs1z : s1.size = t.size - (a + hh) := by rw [hs1t, ByteArray.size_extract]; omega
        have hrsz : rs.size ≤ 4 := by rw [← hrs, ByteArray.size_extract]; omega
        obtain ⟨L, hL⟩ : ∃ L, leN (bytesOf rs) = L := ⟨_, rfl⟩
        have hlt4 := fun W => lit_calls' rs hrsz W
        have hLb := leN_bound (bytesOf rs) (bytes_in rs)
        have hLp : (256 : Int) ^ (bytesOf rs).length ≤ 4294967296 := by
          have : (256 : Nat) ^ (bytesOf rs).length ≤ 256 ^ 4 := Nat.pow_le_pow_right (by decide) (by rw [bytesOf_length]; omega)
          have h2 : ((256 ^ (bytesOf rs).length : Nat) : Int) ≤ ((256 ^ 4 : Nat) : Int) := by exact_mod_cast this
          simpa using h2
        rw [hL] at hlt4 hLb
        have hL0 : 0 ≤ L := hLb.1
        have hL1 : L < 4294967296 := by omega
        have HLT := Aside0.mk hlt4
        have HRS := Aside0.mk hrst
        have HS1 := Aside0.mk hs1t
        have HZ1 := Aside0.mk hs1z
        have HLL := Aside0.mk hL
        clear hlt4 hrst hs1t hs1z hL hLb hLp hrs hrsz
        by_cases hk0 : k = 0
        · have hkb : ((k : Int) == 0) = true := by rw [hk0]; rfl
          obtain ⟨m, hm⟩ : ∃ m : Nat, litLen v rs = (m : Int) := by
            unfold litLen
            rw [HLL.out]
            split
            · exact ⟨(L + 1).toNat, by omega⟩
            · exact ⟨v + 1, rfl⟩
          have hNA : 60 ≤ v → L + 1 = (m : Int) := fun h => by rw [← hm, litLen, if_pos h, HLL.out]
          have hNB : ¬ 60 ≤ v → (v : Int) + 1 = (m : Int) := fun h => by rw [← hm, litLen, if_neg h]
          have hm1 : m ≤ 4294967296 := by by_cases h : 60 ≤ v; (have := hNA h; omega); (have := hNB h; omega)
          have hE : elem n t (xs, a + 1, 0) v k = litN n t (xs, a + hh, 0) (m : Int) := by
            have h2 := HHH.out
            rw [hk0] at h2 ⊢
            have h3 := HL0.out (by rw [hk0, h2]; exact hsk) hk0
            rw [h2, ← HRS.out, hm] at h3
            exact h3
          rw [hE] at HRU
          clear HL0 HL1 HSH hE hm HHH
          by_cases hfo : n - (xs.length : Int) < (m : Int)
          · have hfob : decide (n - (xs.length : Int) < (m : Int)) = true := decide_eq_true hfo
            have hR2 : fin n R = (⟨#[]⟩, 3) := by
              have h3 := HRU.out
              rw [litN_form hfo, if_neg (by decide)] at h3
              rw [← h3]
              rfl
            have HR2 := Aside0.mk hR2
            clear hR2 hx HRU
            by_cases h60 : 60 ≤ v
            · have h60b : decide (60 ≤ (v : Int)) = true := decide_eq_true (by omega)
              have hN := hNA h60
              clear hNA hNB h60
              go_wp2_with fail
              refine (HLT.out w1).mono ?_
              rintro e w2 ⟨rfl, hd2⟩
              have HO2 := Aside0.mk (HO1.out.drawn hd2)
              clear hd2 HO1 HLT
              skip
              go_wp2_with fail
              go_ret2
              exact ⟨by rw [HR2.out]; rfl, HO2.out.below⟩
            · have h60b : decide (60 ≤ (v : Int)) = false := decide_eq_false (by omega)
              have hN := hNB h60
              clear hNA hNB h60 HLT
              skip
              go_wp2_with fail
              go_ret2
              exact ⟨by rw [HR2.out]; rfl, HO1.out.below⟩
          · have hfob : decide (n - (xs.length : Int) < (m : Int)) = false := decide_eq_false hfo
            by_cases hsh : s1.size < m
            · have hshb : decide (s1.size < m) = true := decide_eq_true hsh
              have hR2 : fin n R = (⟨#[]⟩, 2) := by
                have h3 := HRU.out
                rw [litN_short hfo (by omega) (by have := HZ1.out; omega), if_neg (by decide)] at h3
                rw [← h3]
                rfl
              have HR2 := Aside0.mk hR2
              clear hR2 hx HRU
              by_cases h60 : 60 ≤ v
              · have h60b : decide (60 ≤ (v : Int)) = true := decide_eq_true (by omega)
                have hN := hNA h60
                clear hNA hNB h60
                go_wp2_with fail
                refine (HLT.out w1).mono ?_
                rintro e w2 ⟨rfl, hd2⟩
                have HO2 := Aside0.mk (HO1.out.drawn hd2)
                clear hd2 HO1 HLT
                skip
                go_wp2_with fail
                go_ret2
                exact ⟨by rw [HR2.out]; rfl, HO2.out.below⟩
              · have h60b : decide (60 ≤ (v : Int)) = false := decide_eq_false (by omega)
                have hN := hNB h60
                clear hNA hNB h60 HLT
                skip
                go_wp2_with fail
                go_ret2
                exact ⟨by rw [HR2.out]; rfl, HO1.out.below⟩
            · have hshb : decide (s1.size < m) = false := decide_eq_false hsh
              have HNW := Aside0.mk (litN_ok (s := t) (a := a + hh) hfo (by omega) (by have := HZ1.out; omega))
              rw [HNW.out, if_pos rfl] at HRU
              clear HNW
              obtain ⟨x1, hx1⟩ : ∃ x1, s1.extract 0 m = x1 := ⟨_, rfl⟩
              obtain ⟨s2, hs2⟩ : ∃ s2, s1.extract m s1.size = s2 := ⟨_, rfl⟩
              have kb := fun W => print_bytes (P := Try.prog) 9 32 5 Try.underlying9 Try.underlying32 Try.underlying5 x1 W
              have hx1z : x1.size = m := by rw [← hx1, ByteArray.size_extract]; omega
              have hx1t : x1 = t.extract (a + hh) (a + hh + m) := by
                have h2 := HZ1.out
                rw [← hx1, HS1.out]
                exact ext_ext t (a + hh) t.size 0 m hgt (by omega) (by omega) (Nat.le_refl _)
              have hs2t : s2 = t.extract (a + hh + m) t.size := by
                have h2 := HZ1.out
                rw [← hs2, h2, HS1.out, ext_ext t (a + hh) t.size m (t.size - (a + hh)) hgt (by omega) (by omega) (Nat.le_refl _), show a + hh + (t.size - (a + hh)) = t.size by omega]
              have hs2z : s2.size = t.size - (a + hh + m) := by rw [hs2t, ByteArray.size_extract]; omega
              have hmt : a + hh + m ≤ t.size := by have := HZ1.out; omega
              rw [Int.toNat_natCast, ← hx1t] at HRU
              have HS2 := Aside0.mk hs2t
              have HS2Z := Aside0.mk hs2z
              have HX1Z := Aside0.mk hx1z
              have hbytes : xs.length + x1.size ≤ 140737488355328 := by omega
              clear hx1t hs2t hs2z hx hx1z
              by_cases h60 : 60 ≤ v
              · have h60b : decide (60 ≤ (v : Int)) = true := decide_eq_true (by omega)
                have hN := hNA h60
                clear hNA hNB h60
                go_wp2_with fail
                refine (HLT.out w1).mono ?_
                rintro e w2 ⟨rfl, hd2⟩
                have HO2 := Aside0.mk (HO1.out.drawn hd2)
                clear hd2 HO1 HLT
                have HOB := Aside0.mk (Ow.bytes HO2.out x1)
                have hbase := HO2.out.base
                go_wp2_with (at_builtin; refine wp_append_bytes rfl (.tmp 55) (.tmp 59) rfl B (.slice A xs.length c) xs rfl x1 HOB.out.own (grownCap w2 x1.size 0 5) rfl hbytes hbase ?_; intro A2 c2 w5 ho hg; have HO5 := Aside0.mk (HOB.out.grown hg ho); clear ho hg)
                go_roundg gr
                case measure => omega
                case rel =>
                  have hl2 : (xs ++ bytesOf x1).length = xs.length + x1.size := by rw [List.length_append, bytesOf_length]
                  have h3 := HRU.out
                  have hx1z := HX1Z.out
                  exact ⟨xs ++ bytesOf x1, a + hh + m, A2, c2, s2, rfl, by rw [List.length_append], by omega, ⟨by have := HS2Z.out; omega⟩, HS2, by rw [hl2]; omega, ⟨HI.out.append (bytes_in _)⟩, HO5, ⟨by omega⟩, ⟨h3⟩⟩
              · have h60b : decide (60 ≤ (v : Int)) = false := decide_eq_false (by omega)
                have hN := hNB h60
                clear hNA hNB h60 HLT
                have HOB := Aside0.mk (Ow.bytes HO1.out x1)
                have hbase := HO1.out.base
                go_wp2_with (at_builtin; refine wp_append_bytes rfl (.tmp 55) (.tmp 59) rfl B (.slice A xs.length c) xs rfl x1 HOB.out.own (grownCap w1 x1.size 0 5) rfl hbytes hbase ?_; intro A2 c2 w5 ho hg; have HO5 := Aside0.mk (HOB.out.grown hg ho); clear ho hg)
                go_roundg gr
                case measure => omega
                case rel =>
                  have hl2 : (xs ++ bytesOf x1).length = xs.length + x1.size := by rw [List.length_append, bytesOf_length]
                  have h3 := HRU.out
                  have hx1z := HX1Z.out
                  exact ⟨xs ++ bytesOf x1, a + hh + m, A2, c2, s2, rfl, by rw [List.length_append], by omega, ⟨by have := HS2Z.out; omega⟩, HS2, by rw [hl2]; omega, ⟨HI.out.append (bytes_in _)⟩, HO5, ⟨by omega⟩, ⟨h3⟩⟩
        · have hkb : ((k : Int) == 0) = false := beq_eq_false_iff_ne.mpr (by omega)
          obtain ⟨cN, hcN⟩ : ∃ cN : Nat, cpLen v k = (cN : Int) := by
            unfold cpLen
            split
            · exact ⟨_, rfl⟩
            · exact ⟨v + 1, rfl⟩
          obtain ⟨bN, hbN⟩ : ∃ bN : Nat, cpBack v k rs = (bN : Int) := by
            unfold cpBack
            rw [HLL.out]
            split
            · exact ⟨v / 8 * 256 + L.toNat, by omega⟩
            · exact ⟨L.toNat, by omega⟩
          have hCA : k = 1 → 4 + (v : Int) % 8 = (cN : Int) := fun h => by rw [← hcN, cpLen, if_pos h]; omega
          have hCB : ¬ k = 1 → (v : Int) + 1 = (cN : Int) := fun h => by rw [← hcN, cpLen, if_neg h]
          have hBA : k = 1 → (v : Int) / 8 * 256 + L = (bN : Int) := fun h => by rw [← hbN, cpBack, if_pos h, HLL.out]; omega
          have hBB : ¬ k = 1 → L = (bN : Int) := fun h => by rw [← hbN, cpBack, if_neg h, HLL.out]
          have hC1 : cN ≤ 64 := by by_cases h : k = 1; (have := hCA h; omega); (have := hCB h; omega)
          have hB1 : bN ≤ 4294967296 + 2048 := by by_cases h : k = 1; (have := hBA h; omega); (have := hBB h; omega)
          have hE : elem n t (xs, a + 1, 0) v k = cp n (xs, a + hh, 0) (cN : Int) (bN : Int) := by
            have h3 := HL1.out hsk hk0
            rw [← HRS.out, hcN, hbN] at h3
            exact h3
          rw [hE] at HRU
          clear HL0 HL1 HSH hE hcN hbN HHH
          by_cases hb0' : bN = 0
          · have hbb : ((bN : Int) == 0) = true := beq_iff_eq.2 (by omega)
            have hR2 : fin n R = (⟨#[]⟩, 3) := by
              have h3 := HRU.out
              rw [cp_form (.inl (by omega)), if_neg (by decide)] at h3
              rw [← h3]
              rfl
            have HR2 := Aside0.mk hR2
            clear hR2 hx HRU
            by_cases hk1' : k = 1
            · have hk1b : ((k : Int) == 1) = true := by rw [hk1']; rfl
              have hC := hCA hk1'
              have hB := hBA hk1'
              clear hCA hCB hBA hBB hk1'
              go_wp2_with fail
              refine (HLT.out w1).mono ?_
              rintro e w2 ⟨rfl, hd2⟩
              have HO2 := Aside0.mk (HO1.out.drawn hd2)
              clear hd2 HO1 HLT
              go_wp2_with fail
              go_ret2
              exact ⟨by rw [HR2.out]; rfl, HO2.out.below⟩
            · have hk1b : ((k : Int) == 1) = false := beq_eq_false_iff_ne.mpr (by omega)
              have hC := hCB hk1'
              have hB := hBB hk1'
              clear hCA hCB hBA hBB hk1'
              go_wp2_with fail
              refine (HLT.out w1).mono ?_
              rintro e w2 ⟨rfl, hd2⟩
              have HO2 := Aside0.mk (HO1.out.drawn hd2)
              clear hd2 HO1 HLT
              go_wp2_with fail
              go_ret2
              exact ⟨by rw [HR2.out]; rfl, HO2.out.below⟩
          · have hbb : ((bN : Int) == 0) = false := beq_eq_false_iff_ne.mpr (by omega)
            by_cases hbl : xs.length < bN
            · have hblb : decide (xs.length < bN) = true := decide_eq_true hbl
              have hR2 : fin n R = (⟨#[]⟩, 3) := by
                have h3 := HRU.out
                rw [cp_form (.inr (.inl (by omega))), if_neg (by decide)] at h3
                rw [← h3]
                rfl
              have HR2 := Aside0.mk hR2
              clear hR2 hx HRU
              by_cases hk1' : k = 1
              · have hk1b : ((k : Int) == 1) = true := by rw [hk1']; rfl
                have hC := hCA hk1'
                have hB := hBA hk1'
                clear hCA hCB hBA hBB hk1'
                go_wp2_with fail
                refine (HLT.out w1).mono ?_
                rintro e w2 ⟨rfl, hd2⟩
                have HO2 := Aside0.mk (HO1.out.drawn hd2)
                clear hd2 HO1 HLT
                go_wp2_with fail
                go_ret2
                exact ⟨by rw [HR2.out]; rfl, HO2.out.below⟩
              · have hk1b : ((k : Int) == 1) = false := beq_eq_false_iff_ne.mpr (by omega)
                have hC := hCB hk1'
                have hB := hBB hk1'
                clear hCA hCB hBA hBB hk1'
                go_wp2_with fail
                refine (HLT.out w1).mono ?_
                rintro e w2 ⟨rfl, hd2⟩
                have HO2 := Aside0.mk (HO1.out.drawn hd2)
                clear hd2 HO1 HLT
                go_wp2_with fail
                go_ret2
                exact ⟨by rw [HR2.out]; rfl, HO2.out.below⟩
            · have hblb : decide (xs.length < bN) = false := decide_eq_false hbl
              by_cases hfo : n - (xs.length : Int) < (cN : Int)
              · have hfob : decide (n - (xs.length : Int) < (cN : Int)) = true := decide_eq_true hfo
                have hR2 : fin n R = (⟨#[]⟩, 3) := by
                  have h3 := HRU.out
                  rw [cp_form (.inr (.inr hfo)), if_neg (by decide)] at h3
                  rw [← h3]
                  rfl
                have HR2 := Aside0.mk hR2
                clear hR2 hx HRU
                by_cases hk1' : k = 1
                · have hk1b : ((k : Int) == 1) = true := by rw [hk1']; rfl
                  have hC := hCA hk1'
                  have hB := hBA hk1'
                  clear hCA hCB hBA hBB hk1'
                  go_wp2_with fail
                  refine (HLT.out w1).mono ?_
                  rintro e w2 ⟨rfl, hd2⟩
                  have HO2 := Aside0.mk (HO1.out.drawn hd2)
                  clear hd2 HO1 HLT
                  go_wp2_with fail
                  go_ret2
                  exact ⟨by rw [HR2.out]; rfl, HO2.out.below⟩
                · have hk1b : ((k : Int) == 1) = false := beq_eq_false_iff_ne.mpr (by omega)
                  have hC := hCB hk1'
                  have hB := hBB hk1'
                  clear hCA hCB hBA hBB hk1'
                  go_wp2_with fail
                  refine (HLT.out w1).mono ?_
                  rintro e w2 ⟨rfl, hd2⟩
                  have HO2 := Aside0.mk (HO1.out.drawn hd2)
                  clear hd2 HO1 HLT
                  go_wp2_with fail
                  go_ret2
                  exact ⟨by rw [HR2.out]; rfl, HO2.out.below⟩
              · have hfob : decide (n - (xs.length : Int) < (cN : Int)) = false := decide_eq_false hfo
                have HNW := Aside0.mk (cp_ok (size := n) (xs := xs) (a := a + hh) (n := (cN : Int)) (b := (bN : Int)) (by omega))
                rw [HNW.out, if_pos rfl, Int.toNat_natCast, Int.toNat_natCast] at HRU
                clear HNW hx
                by_cases hk1' : k = 1
                · have hk1b : ((k : Int) == 1) = true := by rw [hk1']; rfl
                  have hC := hCA hk1'
                  have hB := hBA hk1'
                  clear hCA hCB hBA hBB hk1'
                  go_wp2_with fail
                  refine (HLT.out w1).mono ?_
                  rintro e w2 ⟨rfl, hd2⟩
                  have HO2 := Aside0.mk (HO1.out.drawn hd2)
                  clear hd2 HO1 HLT
                  go_wp2_with fail
                  clear hC hB hC1 hB1 hb4 hb5
                  go_loopg [6, 14] cN (fun kq v6 v14 wr => ∃ (j : Nat) (A' : Option Addr) (c' : Nat) (ys : List Int), v6 = .slice A' ys.length c' ∧ v14 = .int .i64 j ∧ j ≤ cN ∧ Aside0 (kq = cN - j) ∧ Aside0 (ys.length = xs.length + j) ∧ Aside0 (rep bN (cN - j) ys = rep bN cN xs) ∧ Aside0 (Ow B w wr A' c' ys))
                  case atStart => exact ⟨0, A, c, xs, rfl, rfl, by omega, ⟨by omega⟩, ⟨rfl⟩, ⟨rfl⟩, HO2⟩
                  case round =>
                    clear HO2
                    obtain ⟨j, A', c', ys, rfl, rfl, hj, HKK, HY, HEE, HOO⟩ := hrel
                    by_cases hjc : j < cN
                    · have hjb : decide (j < cN) = true := decide_eq_true hjc
                      have hlen := HY.out
                      obtain ⟨g, cap, hg, _, hgl⟩ := HOO.out.own.form (by omega)
                      simp only [Value.slice.injEq] at hg
                      obtain ⟨rfl, _, rfl⟩ := hg
                      have hat := own_at HOO.out.own ((ys.length - bN : Nat) : Int) (by omega) (by omega)
                      rw [Int.toNat_natCast] at hat
                      obtain ⟨y, hy⟩ : ∃ y, y = rd ys ((ys.length - bN : Nat) : Int) := ⟨_, rfl⟩
                      rw [← hy] at hat
                      have hcell := hat.1
                      have hwi : (ys.length : Int) - (bN : Int) = ((ys.length - bN : Nat) : Int) := by omega
                      have hix : ys.length - bN < ys.length := by omega
                      have HOW := Aside0.mk (HOO.out.alloc (.cells #[.int .u8 y] 5))
                      have HBW := Aside0.mk (blk_new (‹World›) (.cells #[.int .u8 y] 5))
                      have HYY := Aside0.mk hy
                      have hbase := HOW.out.base
                      have hby : ys.length + 1 ≤ 140737488355328 := by omega
                      clear hat hy hlen
                      go_wp2_with (at_builtin; refine wp_append_byte rfl (.tmp 100) (.tmp 108) rfl B (.slice (some ⟨g, 0, none⟩) ys.length c') ys y rfl HOW.out.own (‹World›).heap.size 1 rfl HBW.out hby hbase ?_; intro A2 c2 w5 ho hg; have HO5 := Aside0.mk (HOW.out.grown hg ho); clear ho hg)
                      go_roundg (cN - (j + 1))
                      case measure => have := HKK.out; omega
                      case rel =>
                        refine ⟨j + 1, A2, c2, ys ++ [y], by rw [List.length_append]; rfl, by go_num, by omega, ⟨rfl⟩, ⟨by rw [List.length_append, HY.out, List.length_singleton]; omega⟩, ⟨?_⟩, HO5⟩
                        rw [← HEE.out, show cN - j = (cN - (j + 1)) + 1 by omega, rep, HYY.out]
                        simp [rd]
                    · obtain rfl : j = cN := by omega
                      go_wp2_with fail
                      go_roundg gr
                      case measure => omega
                      case rel =>
                        have he := HEE.out
                        rw [Nat.sub_self, rep] at he
                        have hZ := HZ1.out
                        exact ⟨ys, a + hh, A', c', s1, rfl, rfl, hgt, HZ1, HS1, by rw [HY.out]; omega, ⟨by rw [he]; exact rep_in _ _ _ HI.out⟩, HOO, ⟨by omega⟩, ⟨by rw [he]; exact HRU.out⟩⟩
                · have hk1b : ((k : Int) == 1) = false := beq_eq_false_iff_ne.mpr (by omega)
                  have hC := hCB hk1'
                  have hB := hBB hk1'
                  clear hCA hCB hBA hBB hk1'
                  go_wp2_with fail
                  refine (HLT.out w1).mono ?_
                  rintro e w2 ⟨rfl, hd2⟩
                  have HO2 := Aside0.mk (HO1.out.drawn hd2)
                  clear hd2 HO1 HLT
                  go_wp2_with fail
                  clear hC hB hC1 hB1 hb4 hb5
                  go_loopg [6, 14] cN (fun kq v6 v14 wr => ∃ (j : Nat) (A' : Option Addr) (c' : Nat) (ys : List Int), v6 = .slice A' ys.length c' ∧ v14 = .int .i64 j ∧ j ≤ cN ∧ Aside0 (kq = cN - j) ∧ Aside0 (ys.length = xs.length + j) ∧ Aside0 (rep bN (cN - j) ys = rep bN cN xs) ∧ Aside0 (Ow B w wr A' c' ys))
                  case atStart => exact ⟨0, A, c, xs, rfl, rfl, by omega, ⟨by omega⟩, ⟨rfl⟩, ⟨rfl⟩, HO2⟩
                  case round =>
                    clear HO2
                    obtain ⟨j, A', c', ys, rfl, rfl, hj, HKK, HY, HEE, HOO⟩ := hrel
                    by_cases hjc : j < cN
                    · have hjb : decide (j < cN) = true := decide_eq_true hjc
                      have hlen := HY.out
                      obtain ⟨g, cap, hg, _, hgl⟩ := HOO.out.own.form (by omega)
                      simp only [Value.slice.injEq] at hg
                      obtain ⟨rfl, _, rfl⟩ := hg
                      have hat := own_at HOO.out.own ((ys.length - bN : Nat) : Int) (by omega) (by omega)
                      rw [Int.toNat_natCast] at hat
                      obtain ⟨y, hy⟩ : ∃ y, y = rd ys ((ys.length - bN : Nat) : Int) := ⟨_, rfl⟩
                      rw [← hy] at hat
                      have hcell := hat.1
                      have hwi : (ys.length : Int) - (bN : Int) = ((ys.length - bN : Nat) : Int) := by omega
                      have hix : ys.length - bN < ys.length := by omega
                      have HOW := Aside0.mk (HOO.out.alloc (.cells #[.int .u8 y] 5))
                      have HBW := Aside0.mk (blk_new (‹World›) (.cells #[.int .u8 y] 5))
                      have HYY := Aside0.mk hy
                      have hbase := HOW.out.base
                      have hby : ys.length + 1 ≤ 140737488355328 := by omega
                      clear hat hy hlen
                      go_wp2_with (at_builtin; refine wp_append_byte rfl (.tmp 100) (.tmp 108) rfl B (.slice (some ⟨g, 0, none⟩) ys.length c') ys y rfl HOW.out.own (‹World›).heap.size 1 rfl HBW.out hby hbase ?_; intro A2 c2 w5 ho hg; have HO5 := Aside0.mk (HOW.out.grown hg ho); clear ho hg)
                      go_roundg (cN - (j + 1))
                      case measure => have := HKK.out; omega
                      case rel =>
                        refine ⟨j + 1, A2, c2, ys ++ [y], by rw [List.length_append]; rfl, by go_num, by omega, ⟨rfl⟩, ⟨by rw [List.length_append, HY.out, List.length_singleton]; omega⟩, ⟨?_⟩, HO5⟩
                        rw [← HEE.out, show cN - j = (cN - (j + 1)) + 1 by omega, rep, HYY.out]
                        simp [rd]
                    · obtain rfl : j = cN := by omega
                      go_wp2_with fail
                      go_roundg gr
                      case measure => omega
                      case rel =>
                        have he := HEE.out
                        rw [Nat.sub_self, rep] at he
                        have hZ := HZ1.out
                        exact ⟨ys, a + hh, A', c', s1, rfl, rfl, hgt, HZ1, HS1, by rw [HY.out]; omega, ⟨by rw [he]; exact rep_in _ _ _ HI.out⟩, HOO, ⟨by omega⟩, ⟨by rw [he]; exact HRU.out⟩⟩
    · have hz : s.size = 0 := by have := HSZ.out; omega
      have hzb : decide (0 < s.size) = false := decide_eq_false (by omega)
      have hR0 : R = (xs, 0) := by
        rw [← HE.out]
        cases gk with
        | zero => rfl
        | succ gk => rw [run, if_neg hlt]
      have HR0 := Aside0.mk hR0
      clear hR0 hz hrun HE HK HSZ HS
      by_cases hnl : (xs.length : Int) < n
      · have hnb : decide ((xs.length : Int) < n) = true := decide_eq_true hnl
        have HF := Aside0.mk (show fin n (xs, 0) = (⟨#[]⟩, 2) by rw [fin, if_neg (fun h => h rfl), if_pos hnl])
        go_wp2_with fail
        go_ret2
        exact ⟨by rw [HR0.out, HF.out]; rfl, HO.out.below⟩
      · have hnb : decide ((xs.length : Int) < n) = false := decide_eq_false hnl
        have HF := Aside0.mk (show fin n (xs, 0) = (strOfNums xs, 0) by rw [fin, if_neg (fun h => h rfl), if_neg hnl])
        have hcv : (convert 32 9 (.slice A xs.length c)).run Try.prog wr = .ok (.string (strOfNums xs)) wr := own_string (P := Try.prog) Try.underlying32 Try.underlying5 Try.underlying9 HO.out.own
        go_wp2_with fail
        go_ret2
        exact ⟨by rw [HR0.out, HF.out]; rfl, HO.out.below⟩
end Go.Proofs.Ytpceignbgnekmaa.Sn
