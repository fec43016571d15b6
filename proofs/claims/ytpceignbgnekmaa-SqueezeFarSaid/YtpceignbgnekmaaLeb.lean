/- leb: the plain laws of a number's bytes: what Put lays, what Next reads, and the document's reading. -/
import Derived.Test.YtpceignbgnekmaaNext
import Derived.Test.YtpceignbgnekmaaBy
namespace Go.Proofs.Ytpceignbgnekmaa.Leb
open Go.RowKit Go.Proofs.YtpceignbgnekmaaW.PrintWords Go.Proofs.Ytpceignbgnekmaa.By Go.Proofs.Ytpceignbgnekmaa.Next Go.Proofs.Ytpceignbgnekmaa.PLebReads

/-- a number's bytes, with so many more digits at most -/
def putL : Nat → Int → List Int
  | 0, n => [n]
  | k + 1, n => if 128 ≤ n then (n % 128 + 128) :: putL k (n / 128) else [n]

theorem putL_in : ∀ (k : Nat) (n : Int), 0 ≤ n → n < 128 ^ (k + 1) → InByte (putL k n)
  | 0, n, h0, h1 => by
    rw [putL]
    exact InByte.cons (by omega) InByte.nil
  | k + 1, n, h0, h1 => by
    rw [putL]
    split
    · refine InByte.cons (by omega) (putL_in k _ (by omega) ?_)
      have : (128 : Int) ^ (k + 1 + 1) = 128 ^ (k + 1) * 128 := Int.pow_succ ..
      omega
    · exact InByte.cons (by omega) InByte.nil

theorem putL_len : ∀ (k : Nat) (n : Int), (putL k n).length ≤ k + 1
  | 0, n => by simp [putL]
  | k + 1, n => by
    rw [putL]
    split
    · have := putL_len k (n / 128)
      simp only [List.length_cons]; omega
    · simp

theorem put_l0 : ∀ (k : Nat) (n : Int) (acc : List Int), 0 ≤ n → n < 128 ^ (k + 1) → n < 18446744073709551616 → acc.length + k < 140737488355328 →
    leb_Put.l0 (k + 1) n acc = some (strOfNums (acc ++ putL k n))
  | 0, n, acc, h0, h1, h2, h3 => by
    simp only [leb_Put.l0, putL]
    rw [if_neg (by omega), if_pos (by omega), Int.emod_eq_of_lt h0 (by omega)]
  | k + 1, n, acc, h0, h1, h2, h3 => by
    have e : leb_Put.l0 (k + 1 + 1) n acc = if n ≥ 128 then (if acc.length < 140737488355328 then (leb_Put.l0 (k + 1) (IntKind.u64.wrap (Int.tdiv n 128)) (acc ++ [(IntKind.u64.wrap ((Int.tmod n 128) + 128)) % 256])) else none) else (if acc.length < 140737488355328 then (some (strOfNums (acc ++ [n % 256]))) else none) := rfl
    rw [e, putL]
    by_cases h : n ≥ 128
    · have hp : (128 : Int) ^ (k + 1 + 1) = 128 ^ (k + 1) * 128 := Int.pow_succ ..
      rw [if_pos h, if_pos (by omega), if_pos h, IntKind.wrap_u64, IntKind.wrap_u64, Int.tdiv_eq_ediv_of_nonneg h0, Int.tmod_eq_emod_of_nonneg h0, Int.emod_eq_of_lt (a := n / 128) (by omega) (by omega),
        Int.emod_eq_of_lt (a := n % 128 + 128) (b := 18446744073709551616) (by omega) (by omega), Int.emod_eq_of_lt (a := n % 128 + 128) (by omega) (by omega)]
      rw [put_l0 k (n / 128) _ (by omega) (by omega) (by omega) (by rw [List.length_append]; simp; omega), List.append_assoc]
      rfl
    · rw [if_neg h, if_pos (by omega), if_neg h, Int.emod_eq_of_lt h0 (by omega)]

theorem put_calls (n : Int) (h0 : 0 ≤ n) (h1 : n < 18446744073709551616) (w : World) :
    Calls Try.prog 17 #[.int .u64 n] w fun e w' => e = .returned (.string (strOfNums (putL 9 n))) ∧ Below w.heap.size w w' := by
  have h := put_l0 9 n [] h0 (by have : (128 : Int) ^ (9 + 1) = 1180591620717411303424 := by decide
                                 omega) h1 (by simp)
  exact leb_Put.calls 10 n _ w h

/-! ### what Next reads is put as it was -/

theorem nx_step {s : ByteArray} {k i : Nat} {n : Int} (h1 : i < s.size) (h2 : ¬ (i = 9 ∧ 1 < bt s i)) (h3 : ¬ (bt s i = 0 ∧ 0 < i)) :
    nx s (k + 1) i n = if bt s i < 128 then (n + bt s i % 128 * 2 ^ (7 * i), (i : Int) + 1, 0) else nx s k (i + 1) (n + bt s i % 128 * 2 ^ (7 * i)) := by
  simp only [nx]
  rw [if_neg (by omega), if_neg h2, if_neg h3]

theorem nx_cases (s : ByteArray) (k i : Nat) (n : Int) :
    (nx s (k + 1) i n = (0, 0, 2) ∧ s.size ≤ i) ∨ (nx s (k + 1) i n = (0, 0, 3) ∧ i < s.size ∧ ((i = 9 ∧ 1 < bt s i) ∨ (bt s i = 0 ∧ 0 < i))) ∨
    (i < s.size ∧ ¬ (i = 9 ∧ 1 < bt s i) ∧ ¬ (bt s i = 0 ∧ 0 < i) ∧ bt s i < 128 ∧ nx s (k + 1) i n = (n + bt s i % 128 * 2 ^ (7 * i), (i : Int) + 1, 0)) ∨
    (i < s.size ∧ ¬ (i = 9 ∧ 1 < bt s i) ∧ ¬ (bt s i = 0 ∧ 0 < i) ∧ 128 ≤ bt s i ∧ nx s (k + 1) i n = nx s k (i + 1) (n + bt s i % 128 * 2 ^ (7 * i))) := by
  by_cases h1 : s.size ≤ i
  · exact .inl ⟨by simp only [nx]; rw [if_pos h1], h1⟩
  by_cases h2 : i = 9 ∧ 1 < bt s i
  · exact .inr (.inl ⟨by simp only [nx]; rw [if_neg h1, if_pos h2], by omega, .inl h2⟩)
  by_cases h3 : bt s i = 0 ∧ 0 < i
  · exact .inr (.inl ⟨by simp only [nx]; rw [if_neg h1, if_neg h2, if_pos h3], by omega, .inr h3⟩)
  by_cases h4 : bt s i < 128
  · exact .inr (.inr (.inl ⟨by omega, h2, h3, h4, by rw [nx_step (by omega) h2 h3, if_pos h4]⟩))
  · exact .inr (.inr (.inr ⟨by omega, h2, h3, by omega, by rw [nx_step (by omega) h2 h3, if_neg h4]⟩))

theorem pow_succ7 (i : Nat) : (2 : Int) ^ (7 * (i + 1)) = 128 * 2 ^ (7 * i) := by
  rw [show 7 * (i + 1) = 7 * i + 7 by omega, Int.pow_add, Int.mul_comm]; rfl

/-- What is told: a value v for the digits from i on, whose bytes stand there. -/
theorem nx_tells (s : ByteArray) : ∀ (k i : Nat) (n m z : Int), i ≤ 9 → nx s k i n = (m, z, 0) →
    ∃ v : Int, 0 ≤ v ∧ (0 < i → 0 < v) ∧ m = n + v * 2 ^ (7 * i) ∧ (i : Int) < z ∧ z ≤ s.size ∧ ((bytesOf s).take z.toNat).drop i = putL (9 - i) v ∧ v * 2 ^ (7 * i) < 18446744073709551616
  | 0, i, n, m, z, hi, h => by simp [nx] at h
  | k + 1, i, n, m, z, hi, h => by
    have hbr := bt_range s i
    rcases nx_cases s k i n with ⟨e, _⟩ | ⟨e, _⟩ | ⟨h1, h2, h3, h4, e⟩ | ⟨h1, h2, h3, h4, e⟩
    · rw [e] at h; simp at h
    · rw [e] at h; simp at h
    · rw [e] at h
      simp only [Prod.mk.injEq] at h
      obtain ⟨rfl, rfl, _⟩ := h
      have hmod : bt s i % 128 = bt s i := by omega
      rw [hmod]
      refine ⟨bt s i, by omega, fun h => by omega, rfl, by omega, by omega, ?_, ?_⟩
      · have hl : i < (bytesOf s).length := by rw [bytesOf_length]; exact h1
        rw [show ((i : Int) + 1).toNat = i + 1 by omega, List.take_succ_eq_append_getElem hl, List.drop_append_of_le_length (by rw [List.length_take]; omega)]
        rw [List.drop_of_length_le (by rw [List.length_take]; omega), bt_get s i hl]
        rw [bt_get s i hl] at h4
        cases h9 : 9 - i with
        | zero => rfl
        | succ q => rw [putL, if_neg (by omega)]; rfl
      · rcases Nat.lt_or_ge i 9 with h | h
        · have h2 : (2 : Int) ^ (7 * i) ≤ 2 ^ 56 := by
            have : (2 : Nat) ^ (7 * i) ≤ 2 ^ 56 := Nat.pow_le_pow_right (by decide) (by omega)
            exact_mod_cast this
          have h6 : bt s i * 2 ^ (7 * i) ≤ 128 * 2 ^ 56 := Int.mul_le_mul (by omega) h2 (Int.le_of_lt (Int.pow_pos (by decide))) (by decide)
          exact Int.lt_of_le_of_lt h6 (by decide)
        · obtain rfl : i = 9 := by omega
          have h6 : (2 : Int) ^ (7 * 9) = 9223372036854775808 := by decide
          rw [h6]; omega
    · rw [e] at h
      have hi9 : i < 9 := by omega
      obtain ⟨v, hv0, hv1, hm, hz0, hz1, hl, hb⟩ := nx_tells s k (i + 1) _ m z (by omega) h
      have hv1 := hv1 (by omega)
      have hmod : bt s i % 128 = bt s i - 128 := by omega
      have hpos : (0 : Int) < 2 ^ (7 * i) := Int.pow_pos (by decide)
      have hp := pow_succ7 i
      refine ⟨bt s i % 128 + 128 * v, by omega, fun _ => by omega, ?_, by omega, hz1, ?_, ?_⟩
      · rw [hm, hp, Int.add_mul, Int.add_assoc]
        congr 2
        rw [← Int.mul_assoc, Int.mul_comm v 128]
      · have hll : i < ((bytesOf s).take z.toNat).length := by rw [List.length_take, bytesOf_length]; omega
        rw [List.drop_eq_getElem_cons hll, hl, show 9 - i = (9 - (i + 1)) + 1 by omega, putL, if_pos (by omega), List.getElem_take, ← bt_get s i (by rw [bytesOf_length]; exact h1)]
        congr 1
        · omega
        · congr 1; omega
      · have e1 : v * 2 ^ (7 * (i + 1)) = v * 128 * 2 ^ (7 * i) := by rw [hp, Int.mul_assoc]
        rw [e1] at hb
        have hle : (bt s i % 128) * 2 ^ (7 * i) ≤ 127 * 2 ^ (7 * i) := Int.mul_le_mul_of_nonneg_right (by omega) (Int.le_of_lt hpos)
        -- v * 128 * 2^(7i) is a multiple of 2^(7 (i + 1)), as 2^64 is
        have hdvd : (2 : Int) ^ (7 * (i + 1)) ∣ 18446744073709551616 := by
          have : (18446744073709551616 : Int) = 2 ^ (7 * (i + 1)) * 2 ^ (64 - 7 * (i + 1)) := by
            rw [← Int.pow_add, show 7 * (i + 1) + (64 - 7 * (i + 1)) = 64 by omega]; decide
          exact ⟨_, this⟩
        obtain ⟨q, hq⟩ := hdvd
        have h5 : v < q := by
          rw [hq, ← e1, Int.mul_comm v] at hb
          exact Int.lt_of_mul_lt_mul_left hb (Int.le_of_lt (Int.pow_pos (by decide)))
        have h6 : (v + 1) * (128 * 2 ^ (7 * i)) ≤ q * (128 * 2 ^ (7 * i)) := Int.mul_le_mul_of_nonneg_right (by omega) (by omega)
        have h7 : q * (128 * 2 ^ (7 * i)) = 18446744073709551616 := by rw [hq, hp, Int.mul_comm]
        rw [h7, Int.add_mul, Int.one_mul] at h6
        have h8 : (bt s i % 128 + 128 * v) * 2 ^ (7 * i) = bt s i % 128 * 2 ^ (7 * i) + v * (128 * 2 ^ (7 * i)) := by
          rw [Int.add_mul, Int.mul_comm 128 v, Int.mul_assoc]
        rw [h8]
        omega

/-! ### the document's Next is the same -/

theorem digit_bound (n b : Int) (i : Nat) (hn : 0 ≤ n ∧ n < 2 ^ (7 * i)) (hb : 0 ≤ b ∧ b ≤ 255) (hi : i ≤ 9) (h9 : i = 9 → b ≤ 1) :
    0 ≤ b % 128 * 2 ^ (7 * i) ∧ n + b % 128 * 2 ^ (7 * i) < 18446744073709551616 ∧ (2 : Int) ^ (7 * i) ≤ 9223372036854775808 := by
  have hp : (0 : Int) < 2 ^ (7 * i) := Int.pow_pos (by decide)
  have hx : 0 ≤ b % 128 * 2 ^ (7 * i) := Int.mul_nonneg (by omega) (by omega)
  rcases Nat.lt_or_ge i 9 with h | h
  · have h2 : (2 : Int) ^ (7 * i) ≤ 72057594037927936 := by
      have : (2 : Nat) ^ (7 * i) ≤ 2 ^ 56 := Nat.pow_le_pow_right (by decide) (by omega)
      have h3 : ((2 ^ (7 * i) : Nat) : Int) ≤ ((2 ^ 56 : Nat) : Int) := by exact_mod_cast this
      simpa using h3
    have h4 : b % 128 * 2 ^ (7 * i) ≤ 127 * 2 ^ (7 * i) := Int.mul_le_mul_of_nonneg_right (by omega) (by omega)
    omega
  · obtain rfl : i = 9 := by omega
    have := h9 rfl
    have h6 : (2 : Int) ^ (7 * 9) = 9223372036854775808 := by decide
    rw [h6] at hn ⊢
    omega

theorem wrap_sum {n D : Int} (d1 : 0 ≤ D) (d2 : n + D < 18446744073709551616) (h0 : 0 ≤ n) : IntKind.u64.wrap (n + IntKind.u64.wrap D) = n + D := by
  rw [IntKind.wrap_u64, IntKind.wrap_u64, Int.emod_eq_of_lt d1 (by omega), Int.emod_eq_of_lt (by omega) d2]
theorem wrap_next (i : Nat) (h : i ≤ 9) : wrap64 ((i : Int) + 1) = ((i + 1 : Nat) : Int) := by unfold wrap64; omega
theorem wrap_by {P : Int} (h0 : 0 < P) (h : 128 * P ≤ 9223372036854775808) : IntKind.u64.wrap (P * 128) = 128 * P := by
  rw [IntKind.wrap_u64]; omega

theorem ref_nx (s : ByteArray) (hs : s.size ≤ 140737488351232) : ∀ (k i : Nat) (n P : Int), P = 2 ^ (7 * i) → i ≤ 9 → (0 ≤ n ∧ n < P) → s.size + 1 ≤ k + i → i ≤ s.size →
    hatchwayref03_Next.l0 (2 * k) s n P (i : Int) = some (nx s k i n)
  | 0, i, n, P, hP, hi, hn, hk, his => absurd hk (by omega)
  | k + 1, i, n, P, hP, hi, hn, hk, his => by
    have hbr := bt_range s i
    have ih := ref_nx s hs k (i + 1)
    have hcs := nx_cases s k i n
    have hdb := digit_bound n (bt s i) i (by rw [← hP]; exact hn) hbr hi
    have hdb2 := digit_bound 0 0 (i + 1) ⟨by omega, Int.pow_pos (by decide)⟩ (by omega)
    have hp := pow_succ7 i
    rw [← hP] at hcs hdb hp
    rw [hp] at ih hdb2
    have hpos : 0 < P := by rw [hP]; exact Int.pow_pos (by decide)
    clear hP hp
    rw [show 2 * (k + 1) = 2 * k + 1 + 1 by omega]
    simp only [hatchwayref03_Next.l0, hatchwayref03_Next.j1]
    have hmod : IntKind.u64.wrap (Int.tmod (bt s i) 128) = bt s i % 128 := by
      rw [IntKind.wrap_u64, Int.tmod_eq_emod_of_nonneg (by omega)]; omega
    rw [hmod]
    have hz : 0 < i → bt s i ≠ 0 → ¬ ((bt s i == 0) = true) := fun _ h1 h => h1 (beq_iff_eq.1 h)
    generalize hD : bt s i % 128 * P = D at hcs hdb ⊢
    rcases hcs with ⟨e, h⟩ | ⟨e, h1, h⟩ | ⟨h1, h2, h3, h4, e⟩ | ⟨h1, h2, h3, h4, e⟩
    · rw [if_neg (by omega), e]
    · rw [if_pos (by omega), if_pos (by omega), e]
      rcases h with ⟨h9, h⟩ | ⟨h, h0⟩
      · rw [if_pos (by omega), if_pos (by omega), if_pos trivial]
      · by_cases h9 : (i : Int) = 9
        · rw [if_pos h9, if_neg (by omega), if_pos (by omega), if_pos (by simpa using h)]
        · rw [if_neg h9, if_pos (by omega), if_pos (by simpa using h)]
    · obtain ⟨d1, d2, d3⟩ := hdb (fun h => by omega)
      have f1 : (i : Int) < (s.size : Int) := by omega
      have f0 : 0 ≤ (i : Int) := by omega
      have f9 : (i : Int) = 9 → ¬ (bt s i > 1) := by omega
      have fz : (i : Int) > 0 → ¬ ((bt s i == 0) = true) := fun h => hz (by omega) (by omega)
      have hw := wrap_sum d1 d2 hn.1
      have h64 := wrap_next i hi
      rw [if_pos f1, if_pos f0, e]
      by_cases h9 : (i : Int) = 9
      · rw [if_pos h9, if_neg (f9 h9), if_pos (by rw [h9]; decide), if_neg (fz (by rw [h9]; decide)), if_pos f0, if_pos f1, if_pos h4, hw, h64]; rfl
      · rw [if_neg h9]
        by_cases h0 : (i : Int) > 0
        · rw [if_pos h0, if_neg (fz h0), if_pos f0, if_pos f1, if_pos h4, hw, h64]; rfl
        · rw [if_neg h0, if_neg (by simp), if_pos f0, if_pos f1, if_pos h4, hw, h64]; rfl
    · have hi9 : i < 9 := by omega
      obtain ⟨d1, d2, d3⟩ := hdb (fun h => by omega)
      obtain ⟨_, _, hpos2⟩ := hdb2 (by omega) (by omega)
      have hDle : D ≤ 127 * P := by rw [← hD]; exact Int.mul_le_mul_of_nonneg_right (by omega) (by omega)
      have hlast := ih (n + D) (128 * P) rfl (by omega) ⟨by omega, by omega⟩ (by omega) (by omega)
      have f1 : (i : Int) < (s.size : Int) := by omega
      have f0 : 0 ≤ (i : Int) := by omega
      have f9 : ¬ (i : Int) = 9 := by omega
      have f8 : ¬ (bt s i < 128) := by omega
      have fz : (i : Int) > 0 → ¬ ((bt s i == 0) = true) := fun h => hz (by omega) (by omega)
      have hby := wrap_by hpos hpos2
      have hw := wrap_sum d1 d2 hn.1
      have h64 := wrap_next i hi
      rw [if_pos f1, if_pos f0, e, if_neg f9]
      by_cases h0 : (i : Int) > 0
      · rw [if_pos h0, if_neg (fz h0), if_pos f0, if_pos f1, if_neg f8, hw, h64, hby, hlast]
      · rw [if_neg h0, if_neg (by simp), if_pos f0, if_pos f1, if_neg f8, hw, h64, hby, hlast]

theorem ref_calls (s : ByteArray) (hs : s.size ≤ 140737488351232) (w : World) :
    Calls Try.prog 16 #[.string s] w fun e w' => T3 (nx s (s.size + 1) 0 0) e ∧ Below w.heap.size w w' := by
  have h := ref_nx s hs (s.size + 1) 0 0 1 (by decide) (by omega) ⟨by omega, by decide⟩ (by omega) (by omega)
  exact (hatchwayref03_Next.calls (2 * (s.size + 1)) s _ _ _ w h).mono fun e w' h => ⟨h.1, h.2.below⟩

/-! ### a beginning is short, or tells the same; numbers that are put are told again -/

theorem bt_extract (s : ByteArray) (c i : Nat) (h : i < c) : bt (s.extract 0 c) i = bt s i := by
  rw [← rd_bytesOf, ← rd_bytesOf, bytes_extract, List.drop_zero]
  simp [rd, List.getD_eq_getElem?_getD, h]

theorem size_extract0 (s : ByteArray) (c : Nat) (h : c ≤ s.size) : (s.extract 0 c).size = c := by
  rw [ByteArray.size_extract]; omega

theorem nx_begin (s : ByteArray) (c : Nat) (hc : c ≤ s.size) : ∀ (k k' i : Nat) (n : Int), c + 1 ≤ k + i → s.size + 1 ≤ k' + i → i ≤ c →
    nx (s.extract 0 c) k i n = (0, 0, 2) ∨ nx (s.extract 0 c) k i n = nx s k' i n
  | 0, _, i, n, h, _, _ => absurd h (by omega)
  | k + 1, 0, i, n, _, h, _ => absurd h (by omega)
  | k + 1, k' + 1, i, n, h, h', hi => by
    have hz := size_extract0 s c hc
    rcases Nat.lt_or_ge i c with hlt | hge
    · have hb := bt_extract s c i hlt
      have E : ∀ (s : ByteArray) (k i : Nat) (n : Int), nx s (k + 1) i n = if s.size ≤ i then (0, 0, 2) else if i = 9 ∧ 1 < bt s i then (0, 0, 3) else if bt s i = 0 ∧ 0 < i then (0, 0, 3)
        else if bt s i < 128 then (n + bt s i % 128 * 2 ^ (7 * i), (i : Int) + 1, 0) else nx s k (i + 1) (n + bt s i % 128 * 2 ^ (7 * i)) := fun _ _ _ _ => rfl
      rw [E, E, if_neg (show ¬ (s.extract 0 c).size ≤ i by omega), if_neg (show ¬ s.size ≤ i by omega), hb]
      by_cases h1 : i = 9 ∧ 1 < bt s i
      · simp only [if_pos h1]; exact .inr trivial
      · simp only [if_neg h1]
        by_cases h2 : bt s i = 0 ∧ 0 < i
        · simp only [if_pos h2]; exact .inr trivial
        · simp only [if_neg h2]
          by_cases h3 : bt s i < 128
          · simp only [if_pos h3]; exact .inr trivial
          · simp only [if_neg h3]
            exact nx_begin s c hc k k' (i + 1) _ (by omega) (by omega) (by omega)
    · left
      simp only [nx]
      rw [if_pos (by omega)]

theorem bt_append (xs : List Int) (i : Nat) (h : i < xs.length) (hx : InByte xs) (t : ByteArray) : bt (strOfNums xs ++ t) i = xs[i] := by
  rw [← rd_bytesOf, bytes_append, bytes_str hx]
  simp [rd, List.getD_eq_getElem?_getD, List.getElem?_append_left h, h]

theorem nx_put (t : ByteArray) (n0 : Int) (h0 : 0 ≤ n0) (h1 : n0 < 18446744073709551616) : ∀ (j i : Nat) (k : Nat) (n v : Int) (pre : List Int),
    i + j = 9 → pre.length = i → 0 ≤ v → n0 = n + v * 2 ^ (7 * i) → 0 ≤ n → (0 < i → 0 < v) → pre ++ putL j v = putL 9 n0 → (putL 9 n0).length + 1 ≤ k + i →
    nx (strOfNums (putL 9 n0) ++ t) k i n = (n0, ((putL 9 n0).length : Int), 0)
  | j, i, 0, n, v, pre, hij, hp, hv, hn, hnn, hpos, hpre, hk => by
    have hl : (putL 9 n0).length = i + (putL j v).length := by rw [← hpre, List.length_append, hp]
    omega
  | j, i, k + 1, n, v, pre, hij, hp, hv, hn, hnn, hpos, hpre, hk => by
    have hin : InByte (putL 9 n0) := putL_in 9 n0 h0 (by have : (128 : Int) ^ (9 + 1) = 1180591620717411303424 := by decide
                                                         omega)
    have hl : (putL 9 n0).length = i + (putL j v).length := by rw [← hpre, List.length_append, hp]
    have hpl : 0 < (putL j v).length := by
      cases j with
      | zero => simp [putL]
      | succ j => rw [putL]; split <;> simp
    have hP : (0 : Int) < 2 ^ (7 * i) := Int.pow_pos (by decide)
    have hsz : (strOfNums (putL 9 n0) ++ t).size = (putL 9 n0).length + t.size := by rw [ByteArray.size_append, strOfNums_size]
    have hget : bt (strOfNums (putL 9 n0) ++ t) i = (putL j v)[0] := by
      rw [bt_append _ i (by omega) hin]
      have e : (putL 9 n0)[i]? = (putL j v)[0]? := by rw [← hpre, List.getElem?_append_right (by omega), hp, Nat.sub_self]
      rw [List.getElem?_eq_getElem (by omega), List.getElem?_eq_getElem hpl] at e
      exact Option.some.inj e
    have hvle : v * 2 ^ (7 * i) ≤ n0 := by omega
    have hv9 : i = 9 → v ≤ 1 := by
      intro h
      subst h
      have h6 : (2 : Int) ^ (7 * 9) = 9223372036854775808 := by decide
      rw [h6] at hvle
      omega
    simp only [nx]
    rw [if_neg (by omega), hget]
    by_cases hb : 128 ≤ v
    · have hj : ∃ j', j = j' + 1 := ⟨j - 1, by omega⟩
      obtain ⟨j', rfl⟩ := hj
      have ep : putL (j' + 1) v = (v % 128 + 128) :: putL j' (v / 128) := by rw [putL, if_pos hb]
      have e0 : (putL (j' + 1) v)[0] = v % 128 + 128 := by simp only [ep, List.getElem_cons_zero]
      rw [e0, if_neg (by omega), if_neg (by omega), if_neg (by omega)]
      have hmod : (v % 128 + 128) % 128 = v % 128 := by omega
      rw [hmod]
      refine nx_put t n0 h0 h1 j' (i + 1) k _ (v / 128) (pre ++ [v % 128 + 128]) (by omega) (by simp [hp]) (by omega) ?_ ?_ (fun _ => by omega) ?_ (by omega)
      · rw [hn, pow_succ7, ← Int.mul_assoc, Int.add_assoc, ← Int.add_mul]
        congr 2
        omega
      · have := Int.mul_nonneg (show 0 ≤ v % 128 by omega) (Int.le_of_lt hP)
        omega
      · rw [List.append_assoc, ← hpre, ep]; rfl
    · have ep : putL j v = [v] := by
        cases j with
        | zero => rfl
        | succ j => rw [putL, if_neg hb]
      have e0 : (putL j v)[0] = v := by simp only [ep, List.getElem_cons_zero]
      rw [e0, if_neg (by omega), if_neg (by omega), if_pos (by omega)]
      have hmod : v % 128 = v := by omega
      rw [hmod, ← hn]
      rw [ep] at hl
      simp only [List.length_cons, List.length_nil] at hl
      rw [hl]
      simp

theorem nx_put_all (n : Int) (h0 : 0 ≤ n) (h1 : n < 18446744073709551616) (t : ByteArray) :
    nx (strOfNums (putL 9 n) ++ t) ((strOfNums (putL 9 n) ++ t).size + 1) 0 0 = (n, ((putL 9 n).length : Int), 0) :=
  nx_put t n h0 h1 9 0 _ 0 n [] rfl rfl h0 (by simp) (by omega) (fun h => absurd h (by omega)) rfl (by rw [ByteArray.size_append, strOfNums_size]; omega)

end Go.Proofs.Ytpceignbgnekmaa.Leb
