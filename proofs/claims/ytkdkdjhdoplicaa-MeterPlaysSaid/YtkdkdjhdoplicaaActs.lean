/- What Take and Give do with a meter, as plain functions; the program and the document do just that. -/
import Derived.Test.YtkdkdjhdoplicaaMet
import Derived.Test.YtkdkdjhdoplicaaPMeterPlaysx1
namespace Go.Proofs.Ytkdkdjhdoplicaa.Acts
open Go.RowKit Go.Proofs.YtkdkdjhdoplicaaW.PrintWords Go.Proofs.Ytkdkdjhdoplicaa.Md Go.Proofs.Ytkdkdjhdoplicaa.Met Go.Proofs.Ytkdkdjhdoplicaa.PMeterPlays

/-- (answer, used, taken, top) -/
def tkM (M u t p n : Int) : Int × Int × Int × Int :=
  if n < 0 then (1, u, t, p) else if M - u < n ∨ 9223372036854775807 - t < n then (5, u, t, p) else (0, u + n, t + n, if p < u + n then u + n else p)
def gvM (u t p n : Int) : Int × Int × Int × Int :=
  if n < 0 then (1, u, t, p) else if u < n then (1, u, t, p) else (0, u - n, t, p)

/-- counts that may be -/
def Ok (M u t p : Int) : Prop := 0 ≤ u ∧ u ≤ p ∧ p ≤ M ∧ M ≤ 9223372036854775807 ∧ 0 ≤ t ∧ t ≤ 9223372036854775807

theorem tk_ok {M u t p : Int} (n : Int) (h : Ok M u t p) : Ok M (tkM M u t p n).2.1 (tkM M u t p n).2.2.1 (tkM M u t p n).2.2.2 := by
  unfold tkM Ok at *
  split
  · exact h
  · split
    · exact h
    · dsimp only
      split <;> omega
theorem gv_ok {M u t p : Int} (n : Int) (h : Ok M u t p) : Ok M (gvM u t p n).2.1 (gvM u t p n).2.2.1 (gvM u t p n).2.2.2 := by
  unfold gvM Ok at *
  split
  · exact h
  · split
    · exact h
    · dsimp only
      omega

theorem take_calls (w : World) (g : Nat) (M u t p n : Int) (h : Mt w g M u t p) (ok : Ok M u t p) :
    Calls Try.prog 10 #[Ptr g, .int .i64 n] w (Met.Told w g (tkM M u t p n).1 M (tkM M u t p n).2.1 (tkM M u t p n).2.2.1 (tkM M u t p n).2.2.2) := by
  obtain ⟨a1, a2, a3, a4, a5, a6⟩ := ok
  by_cases hn : n < 0
  · have e : tkM M u t p n = (1, u, t, p) := by rw [tkM, if_pos hn]
    rw [e]
    exact take_neg w g n M u t p h hn
  · by_cases ho : M - u < n ∨ 9223372036854775807 - t < n
    · have e : tkM M u t p n = (5, u, t, p) := by rw [tkM, if_neg hn, if_pos ho]
      rw [e]
      exact take_over w g n M u t p h (by omega) (by omega) (by omega) ho
    · have e : tkM M u t p n = (0, u + n, t + n, if p < u + n then u + n else p) := by rw [tkM, if_neg hn, if_neg ho]
      rw [e]
      exact take_ok w g n M u t p h (by omega) (by omega) (by omega) (by omega) (by omega)

theorem give_calls (w : World) (g : Nat) (M u t p n : Int) (h : Mt w g M u t p) (ok : Ok M u t p) :
    Calls Try.prog 14 #[Ptr g, .int .i64 n] w (Met.Told w g (gvM u t p n).1 M (gvM u t p n).2.1 (gvM u t p n).2.2.1 (gvM u t p n).2.2.2) := by
  obtain ⟨a1, a2, a3, a4, a5, a6⟩ := ok
  by_cases hn : n < 0
  · have e : gvM u t p n = (1, u, t, p) := by rw [gvM, if_pos hn]
    rw [e]
    exact give_neg w g n M u t p h hn
  · by_cases ho : u < n
    · have e : gvM u t p n = (1, u, t, p) := by rw [gvM, if_neg hn, if_pos ho]
      rw [e]
      exact give_over w g n M u t p h (by omega) ho
    · have e : gvM u t p n = (0, u - n, t, p) := by rw [gvM, if_neg hn, if_neg ho]
      rw [e]
      exact give_ok w g n M u t p h (by omega) (by omega) (by omega)

theorem wrap_id {x : Int} (h0 : 0 ≤ x) (h1 : x < 18446744073709551616) : IntKind.u64.wrap x = x := by
  rw [IntKind.wrap_u64]; omega

abbrev Agg (M u t p : Int) : Value := .agg #[.int .i64 M, .int .i64 u, .int .i64 t, .int .i64 p]

theorem ref_take (M u t p n : Int) (hn : n ≤ 9223372036854775807) (ok : Ok M u t p) :
    hatchwayref07_Take.f 1 M u t p n = some (M, (tkM M u t p n).2.1, (tkM M u t p n).2.2.1, (tkM M u t p n).2.2.2, (tkM M u t p n).1) := by
  obtain ⟨a1, a2, a3, a4, a5, a6⟩ := ok
  unfold hatchwayref07_Take.f tkM
  by_cases h : n < 0
  · rw [if_pos h, if_pos h]
  · have w1 := wrap_id (show 0 ≤ u by omega) (by omega)
    have w2 := wrap_id (show 0 ≤ n by omega) (by omega)
    have w3 := wrap_id (show 0 ≤ u + n by omega) (by omega)
    have w4 := wrap_id (show 0 ≤ M by omega) (by omega)
    have w5 := wrap_id (show 0 ≤ t by omega) (by omega)
    have w6 := wrap_id (show 0 ≤ t + n by omega) (by omega)
    have g1 : M - u < n → u + n > M := by omega
    have g2 : ¬ (M - u < n) → ¬ (u + n > M) := by omega
    have g3 : 9223372036854775807 - t < n → t + n > 9223372036854775807 := by omega
    have g4 : ¬ (9223372036854775807 - t < n) → ¬ (t + n > 9223372036854775807) := by omega
    have g5 : ¬ (M - u < n) → ¬ (9223372036854775807 - t < n) → wrap64 (u + n) = u + n ∧ wrap64 (t + n) = t + n := by
      intro h1 h2
      unfold wrap64
      constructor <;> omega
    rw [if_neg h, if_neg h, w1, w2, w3, w4, w5, w6]
    by_cases h1 : M - u < n
    · rw [if_pos (g1 h1), if_pos (Or.inl h1)]
      rfl
    · rw [if_neg (g2 h1)]
      by_cases h2 : 9223372036854775807 - t < n
      · rw [if_pos (Or.inr h2), decide_eq_true (g3 h2)]
        rfl
      · obtain ⟨e1, e2⟩ := g5 h1 h2
        rw [if_neg (not_or.2 ⟨h1, h2⟩), decide_eq_false (g4 h2)]
        simp only [hatchwayref07_Take.j0]
        rw [if_neg (by simp), e1, e2]
        by_cases h3 : p < u + n
        · rw [if_pos h3]
          first | rw [if_pos h3] | (simp [h3]; done)
        · rw [if_neg h3]
          first | rw [if_neg h3] | (simp [h3]; done)

theorem ref_give (M u t p n : Int) (ok : Ok M u t p) :
    hatchwayref07_Give.f M u t p n = some (M, (gvM u t p n).2.1, (gvM u t p n).2.2.1, (gvM u t p n).2.2.2, (gvM u t p n).1) := by
  obtain ⟨a1, a2, a3, a4, a5, a6⟩ := ok
  unfold hatchwayref07_Give.f gvM
  by_cases h : n < 0
  · rw [if_pos h, if_pos h]
  · rw [if_neg h, if_neg h]
    by_cases h1 : u < n
    · rw [if_pos h1, if_pos h1]
    · have e : wrap64 (u - n) = u - n := by unfold wrap64; omega
      rw [if_neg h1, if_neg h1, e]
end Go.Proofs.Ytkdkdjhdoplicaa.Acts
