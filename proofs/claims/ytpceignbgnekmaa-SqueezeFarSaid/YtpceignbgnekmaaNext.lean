/- leb.Next: what it answers for any bytes, as a function on a list of bytes. -/
import Derived.Test.YtpceignbgnekmaaPLebReadsx1
import Derived.Laws.BitsAllLaws
namespace Go.Proofs.Ytpceignbgnekmaa.Next
open Go.RowKit Go.Proofs.YtpceignbgnekmaaW.PrintWords

/-- from place i on, n gathered so far -/
def nx (s : ByteArray) : Nat → Nat → Int → Int × Int × Int
  | 0, _, _ => (0, 0, 2)
  | k + 1, i, n =>
    if s.size ≤ i then (0, 0, 2)
    else if i = 9 ∧ 1 < bt s i then (0, 0, 3)
    else if bt s i = 0 ∧ 0 < i then (0, 0, 3)
    else if bt s i < 128 then (n + bt s i % 128 * 2 ^ (7 * i), (i : Int) + 1, 0)
    else nx s k (i + 1) (n + bt s i % 128 * 2 ^ (7 * i))

theorem join (n b : Int) (i : Nat) (hn : 0 ≤ n ∧ n < 2 ^ (7 * i)) (hb : 0 ≤ b ∧ b ≤ 255) (hi : i ≤ 9) (h9 : i = 9 → b ≤ 1) :
    bits BinOp.or IntKind.u64 n (IntKind.u64.wrap (b % 128 * 2 ^ (7 * i))) = n + b % 128 * 2 ^ (7 * i) := by
  have hp : (0 : Int) < 2 ^ (7 * i) := Int.pow_pos (by decide)
  have key : b % 128 * 2 ^ (7 * i) + 2 ^ (7 * i) ≤ 18446744073709551616 := by
    rcases Nat.lt_or_ge i 9 with h | h
    · have h2 : (2 : Int) ^ (7 * i) ≤ 2 ^ 56 := by
        have : (2 : Nat) ^ (7 * i) ≤ 2 ^ 56 := Nat.pow_le_pow_right (by decide) (by omega)
        exact_mod_cast this
      have h3 : b % 128 + 1 ≤ 128 := by omega
      have h4 : (b % 128 + 1) * 2 ^ (7 * i) ≤ 128 * 2 ^ 56 := Int.mul_le_mul h3 h2 (by omega) (by decide)
      have h5 : (b % 128 + 1) * 2 ^ (7 * i) = b % 128 * 2 ^ (7 * i) + 2 ^ (7 * i) := by rw [Int.add_mul]; omega
      rw [← h5]; exact Int.le_trans h4 (by decide)
    · obtain rfl : i = 9 := by omega
      have := h9 rfl
      have h5 : b % 128 = b := by omega
      rw [h5]
      have h6 : (2 : Int) ^ (7 * 9) = 9223372036854775808 := by decide
      rw [h6]; omega
  have hx : 0 ≤ b % 128 * 2 ^ (7 * i) := Int.mul_nonneg (by omega) (by omega)
  rw [IntKind.wrap_u64, Int.emod_eq_of_lt hx (by omega)]
  obtain ⟨m, rfl⟩ := Int.eq_ofNat_of_zero_le hn.1
  obtain ⟨c, hc⟩ := Int.eq_ofNat_of_zero_le (show 0 ≤ b % 128 by omega)
  rw [hc] at key ⊢
  have e : ((c : Int) * 2 ^ (7 * i)) = ((c * 2 ^ (7 * i) : Nat) : Int) := by simp
  have ep : ((2 : Int) ^ (7 * i)) = ((2 ^ (7 * i) : Nat) : Int) := by simp
  rw [e]
  rw [e, ep] at key
  have hm := hn.2
  rw [ep] at hm
  rw [u64_or_nat _ _ (by omega) (by omega), Nat.or_comm, nat_join (7 * i) _ _ (Nat.mul_mod_left _ _) (by omega)]
  omega

def T3 (r : Int × Int × Int) (e : Ending) : Prop := e = .returned (.tuple #[.int .u64 r.1, .int .i64 r.2.1, .int .i64 r.2.2])

set_option maxRecDepth 100000 in
set_option maxHeartbeats 1000000 in
theorem calls (s : ByteArray) (hs : s.size ≤ 140737488351232) (w : World) :
    Calls Try.prog 15 #[.string s] w fun e w' => T3 (nx s (s.size + 1) 0 0) e ∧ Below w.heap.size w w' := by
  have kb := fun W => print_bytes (P := Try.prog) 9 32 5 Try.underlying9 Try.underlying32 Try.underlying5 s W
  have HR := Aside0.mk (bytes_reads w 5 s (by omega))
  have HB := Aside0.mk (bytes_below (Below.refl w.heap.size w) (Nat.le_refl _) 5 s)
  go_enter Try.func15, Try.ntmps15
  go_wp2
  go_loopg [5, 12] (s.size + 1) (fun kq v5 v12 w' => ∃ (i : Nat) (n : Int), v12 = .int .i64 i ∧ v5 = .int .u64 n ∧ i ≤ 9 ∧ i ≤ s.size ∧ Aside0 (0 ≤ n ∧ n < 2 ^ (7 * i)) ∧ Aside0 (kq = s.size + 1 - i) ∧ Aside0 (nx s kq i n = nx s (s.size + 1) 0 0) ∧ Aside0 (ReadsInt w' .u8 (some ⟨w.heap.size, 0, none⟩) s.size (bytesOf s)) ∧ Aside0 (Below w.heap.size w w'))
  case atStart => exact ⟨0, 0, rfl, rfl, by omega, by omega, ⟨by omega, by decide⟩, ⟨rfl⟩, ⟨rfl⟩, HR, HB⟩
  case round =>
    clear HR HB
    obtain ⟨i, n, rfl, rfl, hi9, his, HN, HK, HA, HR, HB⟩ := hrel
    cases gk with
    | zero => exact absurd HK.out (by omega)
    | succ k =>
      by_cases hlt : i < s.size
      · obtain ⟨ad, had, hx⟩ := HR.out.at_ i (by omega) (by omega)
        injection had with had
        subst had
        have hbr := bt_range s i
        rw [rd_bytesOf, add_plain] at hx
        simp only [Int.toNat_natCast] at hx
        obtain ⟨b, hb⟩ : ∃ b, b = bt s i := ⟨_, rfl⟩
        rw [← hb] at hx hbr
        have HX := Aside0.mk hb
        clear hb
        have HHX := HX.out
        by_cases he1 : i = 9 ∧ 1 < b
        · obtain ⟨h9, hb1⟩ := he1
          have h9b : ((i : Int) == 9) = true := beq_iff_eq.mpr (by omega)
          have hb1b : decide (1 < b) = true := decide_eq_true hb1
          have H9 := Aside0.mk h9
          clear h9 HHX
          go_wp2
          all_goals
            go_ret3
            refine ⟨?_, HB.out⟩
            rw [← HA.out]
            simp only [nx]
            rw [if_neg (by omega), if_pos ⟨H9.out, by rw [← HX.out]; exact hb1⟩]
            rfl
        · have hj := join n b i HN.out hbr hi9 (fun h => by omega)
          have hbound : b < 128 ∨ i < 9 := by omega
          have hnn := HN.out
          have HE1 := Aside0.mk he1
          have HBD := Aside0.mk hbound
          have hcase : (((i : Int) == 9) = true ∧ decide (1 < b) = false) ∨ ((i : Int) == 9) = false := by
            by_cases h9 : i = 9
            · exact .inl ⟨beq_iff_eq.mpr (by omega), decide_eq_false (by omega)⟩
            · exact .inr (beq_eq_false_iff_ne.mpr (by omega))
          have HJ := Aside0.mk hj
          have HNN := Aside0.mk hnn
          clear hj hnn he1 hbound HHX
          by_cases hl : b < 128
          · have hlb : decide (b < 128) = true := decide_eq_true hl
            by_cases hb0 : b = 0
            · have hb0b : (b == 0) = true := beq_iff_eq.mpr hb0
              have H0 := Aside0.mk hb0
              clear hb0
              by_cases hi0 : 0 < i
              · rcases hcase with ⟨c1, c2⟩ | c1
                all_goals
                  go_wp2
                  go_ret3
                  refine ⟨?_, HB.out⟩
                  rw [← HA.out]
                  simp only [nx]
                  rw [if_neg (by omega), if_neg (by rw [← HX.out]; exact HE1.out), if_pos (by rw [← HX.out]; exact ⟨H0.out, hi0⟩)]
                  rfl
              · rcases hcase with ⟨c1, c2⟩ | c1
                all_goals
                  go_wp2
                  go_ret3
                  refine ⟨?_, HB.out⟩
                  rw [← HA.out]
                  simp only [nx]
                  rw [if_neg (by omega), if_neg (by rw [← HX.out]; exact HE1.out), if_neg (by rw [← HX.out]; omega), if_pos (by rw [← HX.out]; exact hl), ← HX.out, ← HJ.out]
                  rfl
            · have hb0b : (b == 0) = false := beq_eq_false_iff_ne.mpr hb0
              rcases hcase with ⟨c1, c2⟩ | c1
              all_goals
                go_wp2
                go_ret3
                refine ⟨?_, HB.out⟩
                rw [← HA.out]
                simp only [nx]
                rw [if_neg (by omega), if_neg (by rw [← HX.out]; exact HE1.out), if_neg (by rw [← HX.out]; omega), if_pos (by rw [← HX.out]; exact hl), ← HX.out, ← HJ.out]
                rfl
          · have hlb : decide (b < 128) = false := decide_eq_false hl
            rcases hcase with ⟨c1, c2⟩ | c1
            · have := HBD.out
              exact absurd (beq_iff_eq.1 c1) (by omega)
            · go_wp2
              go_roundg k
              case measure => omega
              case rel =>
                have h7 := HBD.out
                have h8 := HNN.out
                have hp : (0 : Int) < 2 ^ (7 * i) := Int.pow_pos (by decide)
                refine ⟨i + 1, n + b % 128 * 2 ^ (7 * i), by go_num, by rw [HJ.out], by omega, by omega, ⟨?_, ?_⟩, ⟨by have := HK.out; omega⟩, ⟨?_⟩, HR, HB⟩
                · have := Int.mul_nonneg (show 0 ≤ b % 128 by omega) (Int.le_of_lt hp)
                  omega
                · have e : (2 : Int) ^ (7 * (i + 1)) = 128 * 2 ^ (7 * i) := by rw [show 7 * (i + 1) = 7 * i + 7 by omega, Int.pow_add, Int.mul_comm]; rfl
                  have h3 : b % 128 ≤ 127 := by omega
                  have h4 := Int.mul_le_mul_of_nonneg_right h3 (Int.le_of_lt hp)
                  rw [e]; omega
                · rw [← HA.out]
                  have e2 : nx s (k + 1) i n = nx s k (i + 1) (n + bt s i % 128 * 2 ^ (7 * i)) := by
                    simp only [nx]
                    rw [if_neg (by omega), if_neg (by rw [← HX.out]; exact HE1.out), if_neg (by rw [← HX.out]; omega), if_neg (by rw [← HX.out]; omega)]
                  rw [e2, HX.out]
      · go_wp2
        go_ret3
        refine ⟨?_, HB.out⟩
        rw [← HA.out]
        simp only [nx]
        rw [if_pos (by omega)]
        rfl
end Go.Proofs.Ytpceignbgnekmaa.Next
