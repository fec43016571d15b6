/- cursor: Read, Byte, All, each by a contract; layer 1's alive. -/
import Derived.Test.YtpceignbgnekmaaCur
namespace Go.Proofs.Ytpceignbgnekmaa.Cur
open Go.RowKit Go.Proofs.YtpceignbgnekmaaW.PrintWords Go.Proofs.Ytpceignbgnekmaa.By Go.Proofs.Ytpceignbgnekmaa.Md

theorem read_calls (w : World) (s : ByteArray) :
    Calls Try.prog 21 #[.string s] w fun e w' => e = .returned (Ptr w.heap.size) ∧ Rd w' w.heap.size s 0 0 ∧ Below w.heap.size w w' := by
  go_enter Try.func21, Try.ntmps21
  go_wp2
  go_ret
  exact ⟨rfl, blk_new _ _, (Below.refl _ _).alloc (Nat.le_refl _) _⟩

theorem all_calls (w : World) (g : Nat) (s : ByteArray) (a : Nat) (h : Rd w g s a 0) (ha : a ≤ s.size) (hs : s.size ≤ 9223372036854775807) :
    Calls Try.prog 25 #[Ptr g] w fun e w' => Told w g s (s.extract a s.size, s.size, 0) e w' := by
  have H := Aside0.mk h
  clear h
  go_enter Try.func25, Try.ntmps25
  go_wp2_with fail
  refine (left_calls _ _ _ _ _ H.out (by omega) hs).mono ?_
  rintro e w1 ⟨rfl, ⟨⟨nq, rfl⟩⟩⟩
  go_wp2_with fail
  refine (take_ok _ g s a (s.size - a) (H.out.drewN nq) hs (by omega)).mono ?_
  rintro e w1 ⟨rfl, hr, hm⟩
  have hz : a + (s.size - a) = s.size := by omega
  rw [hz] at hr
  have HR := Aside0.mk hr
  have HM := Aside0.mk (((Mod.refl _ w).drewN nq).same hm)
  have HZ := Aside0.mk hz
  clear hr hm hz
  go_wp2_with fail
  go_ret
  refine ⟨?_, HR.out, HM.out⟩
  have e1 : s.extract a (a + (s.size - a)) = s.extract a s.size := by rw [HZ.out]
  rw [← e1]
  rfl

theorem extract_one (s : ByteArray) (a : Nat) (h : a < s.size) : (s.extract a (a + 1)).toList.isEmpty = false ∧ (s.extract a (a + 1)).size = 1 ∧ bt (s.extract a (a + 1)) 0 = bt s a := by
  have hz : (s.extract a (a + 1)).size = 1 := by rw [ByteArray.size_extract]; omega
  have hl : a < (bytesOf s).length := by rw [bytesOf_length]; exact h
  refine ⟨?_, hz, ?_⟩
  · have e : (s.extract a (a + 1)).toList = (s.extract a (a + 1)).data.toList := ByteArray.toList_eq ..
    rw [e, List.isEmpty_eq_false_iff]
    intro h0
    have := congrArg List.length h0
    rw [data_length, hz] at this
    simp at this
  · rw [← rd_bytesOf, ← rd_bytesOf, bytes_extract]
    simp [rd, List.getD_eq_getElem?_getD, List.getElem?_drop]

theorem byte_ok (w : World) (g : Nat) (s : ByteArray) (a : Nat) (h : Rd w g s a 0) (ha : a < s.size) (hs : s.size ≤ 9223372036854775807) :
    Calls Try.prog 39 #[Ptr g] w fun e w' => e = .returned (.int .u8 (bt s a)) ∧ Rd w' g s (a + 1) 0 ∧ Mod (· = g) w w' := by
  obtain ⟨h1, h2, h3⟩ := extract_one s a ha
  have HT := Aside0.mk (take_ok w g s a 1 h hs (by omega))
  obtain ⟨r, hr⟩ : ∃ r, r = s.extract a (a + 1) := ⟨_, rfl⟩
  rw [← hr] at h1 h2 h3 HT
  have hx : ∀ h : 0 < r.size, ((r[0]'h).toNat : Int) = bt s a := fun h => by rw [← h3]; simp [bt, h]
  have H3 := Aside0.mk h3
  have hpos : 0 < r.size := by omega
  clear h hr h3 h2
  go_enter Try.func39, Try.ntmps39
  go_wp2_with fail
  refine HT.out.mono ?_
  rintro e w1 ⟨rfl, hr, hm⟩
  have HR := Aside0.mk hr
  have HM := Aside0.mk hm
  clear hr hm
  go_wp2_with fail
  go_ret
  exact ⟨rfl, HR.out, HM.out⟩

theorem byte_no (w : World) (g : Nat) (s : ByteArray) (a : Nat) (f : Int) (h : Rd w g s a f) (ha : a ≤ s.size) (hs : s.size ≤ 9223372036854775807) (hno : f ≠ 0 ∨ s.size ≤ a) :
    Calls Try.prog 39 #[Ptr g] w fun e w' => e = .returned (.int .u8 0) ∧ Rd w' g s a (if f = 0 then 2 else f) ∧ Mod (· = g) w w' := by
  have ht := take_calls w g s a f 1 h ha hs
  have e : tk s a f 1 = (⟨#[]⟩, a, if f = 0 then 2 else f) := by
    by_cases hf : f = 0
    · subst hf
      rw [tk, if_neg (by simp), if_neg (by omega), if_pos (by omega), if_pos rfl]
    · rw [tk, if_pos hf, if_neg hf]
  rw [e] at ht
  have HT := Aside0.mk ht
  clear h e hno ht
  obtain ⟨f', hf'⟩ : ∃ f', f' = if f = 0 then 2 else f := ⟨_, rfl⟩
  rw [← hf'] at HT ⊢
  clear hf'
  go_enter Try.func39, Try.ntmps39
  go_wp2_with fail
  refine HT.out.mono ?_
  rintro e w1 ⟨rfl, hr, hm⟩
  have HR := Aside0.mk hr
  have HM := Aside0.mk hm
  clear hr hm
  go_wp2_with fail
  go_ret
  exact ⟨rfl, HR.out, HM.out⟩

set_option maxRecDepth 100000 in
set_option maxHeartbeats 1000000 in
theorem alive_calls (w : World) : Calls Try.prog 20 #[] w fun e w' => e = .returned (.bool true) ∧ Below w.heap.size w w' := by
  go_enter Try.func20, Try.ntmps20
  go_wp2_with fail
  refine (read_calls _ _).mono ?_
  rintro e w1 ⟨rfl, hr, hb⟩
  have HR1 := Aside0.mk hr
  have HB1 := Aside0.mk hb
  clear hr hb
  go_wp2_with fail
  refine (byte_ok _ _ ⟨#[97, 98, 99]⟩ 0 HR1.out (by decide) (by decide)).mono ?_
  rintro e w2 ⟨he, hr, hm⟩
  obtain rfl : e = .returned (.int .u8 97) := he
  have HR2 := Aside0.mk hr
  have HB2 := Aside0.mk (hm.below HB1.out HB1.out.size (by rintro i rfl; exact Nat.le_refl _))
  clear hr hm HR1 HB1
  go_wp2_with fail
  refine (take_ok _ _ ⟨#[97, 98, 99]⟩ 1 2 HR2.out (by decide) (by decide)).mono ?_
  rintro e w3 ⟨he, hr, hm⟩
  obtain rfl : e = .returned (.string ⟨#[98, 99]⟩) := he
  have HR3 := Aside0.mk hr
  have HB3 := Aside0.mk (hm.below HB2.out HB2.out.size (by rintro i rfl; exact Nat.le_refl _))
  clear hr hm HR2 HB2
  go_wp2_with fail
  refine (byte_no _ _ ⟨#[97, 98, 99]⟩ 3 0 HR3.out (by decide) (by decide) (.inr (by decide))).mono ?_
  rintro e w4 ⟨he, hr, hm⟩
  obtain rfl : e = .returned (.int .u8 0) := he
  have HR4 := Aside0.mk (show Rd w4 w.heap.size ⟨#[97, 98, 99]⟩ 3 2 from hr)
  have HB4 := Aside0.mk (hm.below HB3.out HB3.out.size (by rintro i rfl; exact Nat.le_refl _))
  clear hr hm HR3 HB3
  go_wp2_with fail
  refine (fault_calls _ _ _ _ _ HR4.out).mono ?_
  rintro e w5 ⟨rfl, rfl⟩
  go_wp2_with fail
  go_ret
  exact ⟨rfl, HB4.out⟩
end Go.Proofs.Ytpceignbgnekmaa.Cur
