/- Two parts that are alike, with noise between: where the packing copies from. Plain. -/
import Derived.Test.YtpceignbgnekmaaSqY
namespace Go.Proofs.Ytpceignbgnekmaa.Sq
open Go.RowKit Go.Proofs.YtpceignbgnekmaaW.PrintWords Go.Proofs.Ytpceignbgnekmaa.By Go.Proofs.Ytpceignbgnekmaa.Cur Go.Proofs.Ytpceignbgnekmaa.Sn Go.Proofs.Ytpceignbgnekmaa.Leb

/-- n bytes from 128 on -/
def likeL (n : Nat) : List Int := (List.range n).map fun (i : Nat) => 128 + (i : Int)
/-- k numbers, each with a mark ahead -/
def noiseL : Nat → List Int
  | 0 => []
  | k + 1 => noiseL k ++ [121, ((k / 120 : Nat) : Int), ((k % 120 : Nat) : Int)]
theorem likeL_len (n : Nat) : (likeL n).length = n := by simp [likeL]
theorem noiseL_len : ∀ k, (noiseL k).length = 3 * k
  | 0 => rfl
  | k + 1 => by rw [noiseL, List.length_append, noiseL_len k]; simp; omega
theorem likeL_at (n i : Nat) (h : i < n) : (likeL n)[i]? = some (128 + (i : Int)) := by simp [likeL, h]
/-- the byte at a place of the noise -/
def nz (t : Nat) : Int := if t % 3 = 0 then 121 else if t % 3 = 1 then ((t / 3 / 120 : Nat) : Int) else ((t / 3 % 120 : Nat) : Int)
theorem noiseL_at : ∀ (k t : Nat), t < 3 * k → (noiseL k)[t]? = some (nz t)
  | 0, t, h => absurd h (by omega)
  | k + 1, t, h => by
    have hl := noiseL_len k
    rw [noiseL]
    by_cases ht : t < 3 * k
    · rw [List.getElem?_append_left (by omega)]
      exact noiseL_at k t ht
    · rw [List.getElem?_append_right (by omega), hl]
      unfold nz
      obtain rfl | rfl | rfl : t = 3 * k ∨ t = 3 * k + 1 ∨ t = 3 * k + 2 := by omega
      · rw [if_pos (by omega), show 3 * k - 3 * k = 0 by omega]; rfl
      · rw [if_neg (by omega), if_pos (by omega), show 3 * k + 1 - 3 * k = 1 by omega, show (3 * k + 1) / 3 = k by omega]; rfl
      · rw [if_neg (by omega), if_neg (by omega), show 3 * k + 2 - 3 * k = 2 by omega, show (3 * k + 2) / 3 = k by omega]; rfl

/-- the byte at a place of the whole -/
def wz (n k t : Nat) : Int := if t < n then 128 + (t : Int) else if t < n + 3 * k then nz (t - n) else 128 + ((t - (n + 3 * k) : Nat) : Int)
theorem whole_at (s : ByteArray) (n k : Nat) (hb : bytesOf s = likeL n ++ (noiseL k ++ likeL n)) (t : Nat) (h : t < n + 3 * k + n) : bt s (t : Nat) = wz n k t := by
  have hl := likeL_len n
  have hn := noiseL_len k
  refine bt_of hb t ?_
  unfold wz
  by_cases h1 : t < n
  · rw [if_pos h1, List.getElem?_append_left (by omega)]
    exact likeL_at n t h1
  · rw [if_neg h1, List.getElem?_append_right (by omega), hl]
    by_cases h2 : t < n + 3 * k
    · rw [if_pos h2, List.getElem?_append_left (by omega)]
      exact noiseL_at k (t - n) (by omega)
    · rw [if_neg h2, List.getElem?_append_right (by omega), hn, show t - n - 3 * k = t - (n + 3 * k) by omega]
      exact likeL_at n _ (by omega)

theorem nz_range (t : Nat) (h : t < 9000) : 0 ≤ nz t ∧ nz t ≤ 121 := by
  unfold nz
  split
  · omega
  · split <;> omega
theorem nz_mark (t : Nat) (h : t < 9000) : nz t = 121 ↔ t % 3 = 0 := by
  unfold nz
  split
  · simp; assumption
  · split <;> (constructor <;> intro g <;> omega)
theorem nz1 (t : Nat) (h : t % 3 = 1) : nz t = ((t / 3 / 120 : Nat) : Int) := by unfold nz; rw [if_neg (by omega), if_pos h]
theorem nz2 (t : Nat) (h : t % 3 = 2) : nz t = ((t / 3 % 120 : Nat) : Int) := by unfold nz; rw [if_neg (by omega), if_neg (by omega)]
theorem wz_like {n k t : Nat} (h : t < n) : wz n k t = 128 + (t : Int) := by unfold wz; rw [if_pos h]
theorem wz_noise {n k t : Nat} (h : n ≤ t) (h2 : t < n + 3 * k) : wz n k t = nz (t - n) := by unfold wz; rw [if_neg (by omega), if_pos h2]
theorem wz_tail {n k t : Nat} (h2 : n + 3 * k ≤ t) : wz n k t = 128 + ((t - (n + 3 * k) : Nat) : Int) := by unfold wz; rw [if_neg (by omega), if_neg (by omega)]

/-- ahead of the second part no four bytes come twice -/
theorem wz_apart (n k i j : Nat) (hk : k < 3000) (hi : i < n + 3 * k) (hj : j < i) (e0 : wz n k j = wz n k i) (e1 : wz n k (j + 1) = wz n k (i + 1)) (e2 : wz n k (j + 2) = wz n k (i + 2)) (e3 : wz n k (j + 3) = wz n k (i + 3)) : False := by
  by_cases hin : i < n
  · rw [wz_like (by omega), wz_like hin] at e0
    omega
  · have hi0 := wz_noise (k := k) (by omega : n ≤ i) hi
    have hr := nz_range (i - n) (by omega)
    by_cases hjn : j < n
    · rw [wz_like hjn, hi0] at e0
      omega
    · have hj0 := wz_noise (k := k) (by omega : n ≤ j) (by omega)
      -- the mark's place is alike
      have mark : ∀ r, r ≤ 3 → (i - n + r) % 3 = 0 → wz n k (j + r) = wz n k (i + r) → (j - n + r) % 3 = 0 ∧ i + r < n + 3 * k := by
        intro r hr3 hm e
        by_cases hir : i + r < n + 3 * k
        · rw [wz_noise (by omega) hir, wz_noise (by omega) (by omega)] at e
          have h1 := (nz_mark (i + r - n) (by omega)).2 (by omega)
          rw [h1] at e
          have h2 := (nz_mark (j + r - n) (by omega)).1 e
          exact ⟨by omega, hir⟩
        · rw [wz_tail (by omega : n + 3 * k ≤ i + r)] at e
          by_cases hjr : j + r < n + 3 * k
          · rw [wz_noise (by omega) hjr] at e
            have := nz_range (j + r - n) (by omega)
            omega
          · rw [wz_tail (by omega)] at e
            omega
      obtain h3 | h3 | h3 : (i - n) % 3 = 0 ∨ (i - n) % 3 = 1 ∨ (i - n) % 3 = 2 := by omega
      · obtain ⟨g1, g2⟩ := mark 0 (by omega) (by omega) e0
        rw [wz_noise (by omega) (by omega), wz_noise (by omega) (by omega), nz1 _ (by omega), nz1 _ (by omega)] at e1
        rw [wz_noise (by omega) (by omega), wz_noise (by omega) (by omega), nz2 _ (by omega), nz2 _ (by omega)] at e2
        omega
      · obtain ⟨g1, g2⟩ := mark 2 (by omega) (by omega) e2
        rw [hj0, hi0, nz1 _ (by omega), nz1 _ (by omega)] at e0
        rw [wz_noise (by omega) (by omega), wz_noise (by omega) (by omega), nz2 _ (by omega), nz2 _ (by omega)] at e1
        omega
      · obtain ⟨g1, g2⟩ := mark 1 (by omega) (by omega) e1
        rw [wz_noise (by omega) (by omega), wz_noise (by omega) (by omega), nz1 _ (by omega), nz1 _ (by omega)] at e2
        rw [wz_noise (by omega) (by omega), wz_noise (by omega) (by omega), nz2 _ (by omega), nz2 _ (by omega)] at e3
        omega

theorem last4_none {s : ByteArray} {i : Nat} : ∀ {m : Nat}, (∀ j, j < m → four s j i = false) → last4 s i m = none
  | 0, _ => rfl
  | m + 1, h => by
    rw [last4, if_neg (fun g => by have := h m (by omega); rw [g.2] at this; cases this)]
    exact last4_none fun j hj => h j (by omega)
theorem last4_zero {s : ByteArray} {i : Nat} (h0 : four s 0 i = true) (h4 : 4 ≤ s.size) : ∀ {m : Nat}, 0 < m → (∀ j, 0 < j → j < m → four s j i = false) → last4 s i m = some 0
  | 0, h, _ => absurd h (by omega)
  | m + 1, _, h => by
    by_cases hm : m = 0
    · subst hm
      rw [last4, if_pos ⟨by omega, h0⟩]
    · rw [last4, if_neg (fun g => by have := h m (by omega) (by omega); rw [g.2] at this; cases this)]
      exact last4_zero h0 h4 (by omega) fun j hj0 hj => h j hj0 (by omega)

section
variable {s : ByteArray} {n k : Nat}
theorem far_size (hb : bytesOf s = likeL n ++ (noiseL k ++ likeL n)) : s.size = n + 3 * k + n := by
  rw [size_eq, hb, List.length_append, List.length_append, likeL_len, noiseL_len]
  omega
theorem far_none (hb : bytesOf s = likeL n ++ (noiseL k ++ likeL n)) (hk : k < 3000) (i : Nat) (hi : i < n + 3 * k) : stepJ s i = none := by
  have hz := far_size hb
  unfold stepJ
  by_cases h4 : i + 4 ≤ s.size
  · rw [if_pos h4]
    refine last4_none fun j hj => ?_
    cases hf : four s j i with
    | false => rfl
    | true =>
      exfalso
      simp only [four, Bool.and_eq_true, beq_iff_eq] at hf
      obtain ⟨⟨⟨f0, f1⟩, f2⟩, f3⟩ := hf
      have e := fun t h => whole_at s n k hb t h
      rw [e j (by omega), e i (by omega)] at f0
      rw [e (j + 1) (by omega), e (i + 1) (by omega)] at f1
      rw [e (j + 2) (by omega), e (i + 2) (by omega)] at f2
      rw [e (j + 3) (by omega), e (i + 3) (by omega)] at f3
      exact wz_apart n k i j hk hi hj f0 f1 f2 f3
  · rw [if_neg h4]
theorem far_alike (hb : bytesOf s = likeL n ++ (noiseL k ++ likeL n)) (t : Nat) (ht : t < n) : bt s (t : Nat) = bt s (n + 3 * k + t : Nat) := by
  rw [whole_at s n k hb t (by omega), whole_at s n k hb (n + 3 * k + t) (by omega), wz_like ht, wz_tail (by omega)]
  omega
theorem far_some (hb : bytesOf s = likeL n ++ (noiseL k ++ likeL n)) (hk : k < 3000) (hn : 4 ≤ n) : stepJ s (n + 3 * k) = some 0 := by
  have hz := far_size hb
  unfold stepJ
  rw [if_pos (by omega)]
  refine last4_zero ?_ (by omega) (by omega) fun j hj0 hj => ?_
  · have e := fun t h => far_alike hb t h
    have e0 := e 0 (by omega)
    rw [Nat.add_zero] at e0
    simp only [four, Bool.and_eq_true, beq_iff_eq]
    exact ⟨⟨⟨e0, e 1 (by omega)⟩, e 2 (by omega)⟩, e 3 (by omega)⟩
  · cases hf : four s j (n + 3 * k) with
    | false => rfl
    | true =>
      exfalso
      simp only [four, Bool.and_eq_true, beq_iff_eq] at hf
      have f0 := hf.1.1.1
      rw [whole_at s n k hb j (by omega), whole_at s n k hb (n + 3 * k) (by omega), wz_tail (Nat.le_refl _)] at f0
      by_cases hjn : j < n
      · rw [wz_like hjn] at f0
        omega
      · rw [wz_noise (by omega) hj] at f0
        have := nz_range (j - n) (by omega)
        omega
theorem far_mtc (hb : bytesOf s = likeL n ++ (noiseL k ++ likeL n)) (hn : n ≤ 64) : ∀ (m t : Nat), t ≤ n → t + m = 64 → mtc s 0 (n + 3 * k) m t = n
  | 0, t, h1, h2 => by
    rw [mtc]
    omega
  | m + 1, t, h1, h2 => by
    have hz := far_size hb
    rw [mtc]
    by_cases ht : t < n
    · have e := far_alike hb t ht
      rw [if_pos ⟨by omega, by omega, by rw [Nat.zero_add]; exact e⟩]
      exact far_mtc hb hn m (t + 1) (by omega) (by omega)
    · rw [if_neg (fun g => ht (by omega))]
      omega
theorem far_packE (hb : bytesOf s = likeL n ++ (noiseL k ++ likeL n)) (hk : k < 3000) (hn : 4 ≤ n) (hn2 : n ≤ 64) : ∀ (f i : Nat), i ≤ n + 3 * k → n + 3 * k - i < f → packE s (f + 1) i 0 = litB (seg s 0 (n + 3 * k)) ++ cpB n ((n + 3 * k : Nat) : Int)
  | 0, i, h1, h2 => absurd h2 (by omega)
  | f + 1, i, h1, h2 => by
    have hz := far_size hb
    rw [packE, if_pos (by omega)]
    by_cases hi : i < n + 3 * k
    · rw [far_none hb hk i hi]
      exact far_packE hb hk hn hn2 f (i + 1) (by omega) (by omega)
    · obtain rfl : i = n + 3 * k := by omega
      rw [far_some hb hk hn]
      have hm : mt s 0 (n + 3 * k) = n := far_mtc hb hn2 64 0 (by omega) rfl
      dsimp only
      rw [hm, packE, if_neg (by omega)]
      have e : litB (seg s (n + 3 * k + n) s.size) = [] := by
        rw [litB, if_pos]
        unfold seg
        rw [bytesOf_length, ByteArray.size_extract]
        omega
      rw [e, List.append_nil]
      simp
theorem far_packF (hb : bytesOf s = likeL n ++ (noiseL k ++ likeL n)) (hk : k < 3000) (hn : 4 ≤ n) (hn2 : n ≤ 64) : packF s = putL 9 (s.size : Int) ++ litB (seg s 0 (n + 3 * k)) ++ cpB n ((n + 3 * k : Nat) : Int) := by
  have hz := far_size hb
  rw [packF, packL_eq, far_packE hb hk hn hn2 s.size 0 (by omega) (by omega), List.append_assoc]
end
end Go.Proofs.Ytpceignbgnekmaa.Sq
