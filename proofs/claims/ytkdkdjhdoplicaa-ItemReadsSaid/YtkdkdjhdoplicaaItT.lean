/- Items as plain trees: how many, how deep, right, the walk with its count, the line. -/
import Derived.Test.YtkdkdjhdoplicaaItH0
namespace Go.Proofs.Ytkdkdjhdoplicaa.It
mutual
def cnt : S43 → Nat
  | ⟨_, _, s⟩ => 1 + cnts s
def cnts : List S43 → Nat
  | [] => 0
  | x :: xs => cnt x + cnts xs
end
mutual
def dp : S43 → Nat
  | ⟨_, _, s⟩ => 1 + dps s
def dps : List S43 → Nat
  | [] => 0
  | x :: xs => max (dp x) (dps xs)
end
/-- has no text a Sub, no list a Text? (here alone) -/
def flat (t : ByteArray) (b : Bool) (s : List S43) : Bool := if b = true then decide (t.size = 0) else decide (s.length = 0)
mutual
def right : S43 → Bool
  | ⟨t, b, s⟩ => flat t b s && rights s
def rights : List S43 → Bool
  | [] => true
  | x :: xs => right x && rights xs
end
def may (x : S43) : Bool := right x && decide (dp x ≤ 16) && decide (cnt x ≤ 1024)
mutual
def wk : S43 → Nat → Nat → Nat × Bool
  | ⟨t, b, s⟩, d, c => if 16 < d ∨ 1024 < c + 1 ∨ flat t b s = false then (c + 1, false) else wks s (d + 1) (c + 1)
def wks : List S43 → Nat → Nat → Nat × Bool
  | [], _, c => (c, true)
  | x :: xs, d, c => if (wk x d c).2 = true then wks xs d (wk x d c).1 else ((wk x d c).1, false)
end
/-- a digit of base 16 -/
def dig (n : Nat) : UInt8 := ([48, 49, 50, 51, 52, 53, 54, 55, 56, 57, 97, 98, 99, 100, 101, 102] : List UInt8).getD n 0
def hexs : List UInt8 → List UInt8
  | [] => []
  | c :: l => dig (c.toNat / 16) :: dig (c.toNat % 16) :: hexs l
mutual
def shw : S43 → List UInt8
  | ⟨t, b, s⟩ => if b = true then 40 :: (shws true s ++ [41]) else if t.size = 0 then [45] else hexs t.data.toList
def shws : Bool → List S43 → List UInt8
  | _, [] => []
  | f, x :: xs => (if f = true then [] else [32]) ++ (shw x ++ shws false xs)
end
theorem hexs_append (a b : List UInt8) : hexs (a ++ b) = hexs a ++ hexs b := by
  induction a with
  | nil => rfl
  | cons c l ih => simp [hexs, ih]
theorem hexs_len (a : List UInt8) : (hexs a).length = 2 * a.length := by
  induction a with
  | nil => rfl
  | cons c l ih => simp [hexs, ih]; omega
theorem cnt_pos (x : S43) : 1 ≤ cnt x := by cases x; simp [cnt]
theorem dp_pos (x : S43) : 1 ≤ dp x := by cases x; simp [dp]
theorem cnts_append (a b : List S43) : cnts (a ++ b) = cnts a + cnts b := by
  induction a with
  | nil => simp [cnts]
  | cons x xs ih => simp [cnts, ih]; omega
theorem cnts_len (a : List S43) : a.length ≤ cnts a := by
  induction a with
  | nil => simp [cnts]
  | cons x xs ih => have := cnt_pos x; simp [cnts]; omega
theorem cnt_mem {y : S43} {s : List S43} (h : y ∈ s) : cnt y ≤ cnts s := by
  induction s with
  | nil => cases h
  | cons x xs ih =>
    rcases List.mem_cons.1 h with rfl | h
    · simp [cnts]
    · have := ih h; simp [cnts]; omega
theorem cnt_sub {x : S43} {i : Nat} (h : i < x.f2.length) : cnt (x.f2[i]'h) < cnt x := by
  cases x with
  | mk t b s =>
    have := cnt_mem (List.getElem_mem h)
    simp only [cnt]
    simp only at this
    omega
mutual
theorem wk_spec : ∀ (x : S43) (d c : Nat), ((wk x d c).2 = true ↔ right x = true ∧ d + dp x ≤ 17 ∧ c + cnt x ≤ 1024) ∧ ((wk x d c).2 = true → (wk x d c).1 = c + cnt x)
  | ⟨t, b, s⟩, d, c => by
    simp only [wk]
    by_cases h : 16 < d ∨ 1024 < c + 1 ∨ flat t b s = false
    · rw [if_pos h]
      refine ⟨⟨fun h => by simp at h, fun ⟨h1, h2, h3⟩ => ?_⟩, fun h => by simp at h⟩
      simp only [right, dp, cnt, Bool.and_eq_true] at h1 h2 h3
      rcases h with h | h | h
      · omega
      · omega
      · simp [h] at h1
    · rw [if_neg h]
      have h' : ¬ 16 < d ∧ ¬ 1024 < c + 1 ∧ flat t b s = true := ⟨fun e => h (.inl e), fun e => h (.inr (.inl e)), by cases e : flat t b s with | true => rfl | false => exact absurd (.inr (.inr e)) h⟩
      obtain ⟨i1, i2⟩ := wks_spec s (d + 1) (c + 1)
      simp only [right, dp, cnt, Bool.and_eq_true]
      refine ⟨i1.trans ⟨fun ⟨a1, a2, a3⟩ => ⟨⟨h'.2.2, a1⟩, ?_, ?_⟩, fun ⟨a1, a2, a3⟩ => ⟨a1.2, ?_, ?_⟩⟩, fun e => ?_⟩
      · rcases a2 with a2 | a2 <;> omega
      · omega
      · omega
      · omega
      · rw [i2 e]; omega
theorem wks_spec : ∀ (s : List S43) (d c : Nat), ((wks s d c).2 = true ↔ rights s = true ∧ (d + dps s ≤ 17 ∨ dps s = 0) ∧ (c + cnts s ≤ 1024 ∨ cnts s = 0)) ∧ ((wks s d c).2 = true → (wks s d c).1 = c + cnts s)
  | [], d, c => by simp [wks, rights, dps, cnts]
  | x :: xs, d, c => by
    obtain ⟨j1, j2⟩ := wk_spec x d c
    have p1 := cnt_pos x
    have p2 := dp_pos x
    simp only [wks, rights, dps, cnts, Bool.and_eq_true]
    by_cases h : (wk x d c).2 = true
    · rw [if_pos h, j2 h]
      obtain ⟨i1, i2⟩ := wks_spec xs d (c + cnt x)
      obtain ⟨r1, r2, r3⟩ := j1.1 h
      refine ⟨i1.trans ⟨fun ⟨a1, a2, a3⟩ => ⟨⟨r1, a1⟩, ?_, ?_⟩, fun ⟨a1, a2, a3⟩ => ⟨a1.2, ?_, ?_⟩⟩, fun e => ?_⟩
      · left; omega
      · left; omega
      · rcases a2 with a2 | a2
        · left; omega
        · omega
      · rcases a3 with a3 | a3
        · left; omega
        · omega
      · rw [i2 e]; omega
    · rw [if_neg h]
      refine ⟨⟨fun h => by simp at h, fun ⟨a1, a2, a3⟩ => absurd (j1.2 ⟨a1.1, ?_, ?_⟩) h⟩, fun h => by simp at h⟩
      · omega
      · omega
end
theorem wk_may (x : S43) : (wk x 1 0).2 = may x := by
  rw [Bool.eq_iff_iff, (wk_spec x 1 0).1]
  simp only [may, Bool.and_eq_true, decide_eq_true_eq]
  constructor
  · rintro ⟨a, b, c⟩; exact ⟨⟨a, by omega⟩, by omega⟩
  · rintro ⟨⟨a, b⟩, c⟩; exact ⟨a, by omega, by omega⟩
end Go.Proofs.Ytkdkdjhdoplicaa.It
