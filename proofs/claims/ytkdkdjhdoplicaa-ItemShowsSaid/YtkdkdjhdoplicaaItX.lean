/- An item that the row reads as data is a tree that lies in memory. -/
import Derived.Test.YtkdkdjhdoplicaaItY
import Derived.ProofKit
import Derived.Deep.Strs
import Derived.Deep.Slices
namespace Go.Proofs.Ytkdkdjhdoplicaa.It
open Go.RowKit Go.ChangeShapes Go.WideShapes Go.ChangeAt Go.Deep
open Go.Proofs.YtkdkdjhdoplicaaW.PrintWords

theorem choose_list {α : Type} {Q : Nat → α → Prop} : ∀ n, (∀ i, i < n → ∃ x, Q i x) → ∃ ps : List α, ps.length = n ∧ ∀ j p, ps[j]? = some p → Q j p
  | 0, _ => ⟨[], rfl, fun j p h => by simp at h⟩
  | n + 1, h => by
    obtain ⟨ps, hl, hq⟩ := choose_list n fun i hi => h i (by omega)
    obtain ⟨x, hx⟩ := h n (by omega)
    refine ⟨ps ++ [x], by simp [hl], fun j p hj => ?_⟩
    rcases Nat.lt_or_ge j ps.length with hj2 | hj2
    · rw [List.getElem?_append_left hj2] at hj
      exact hq j p hj
    · rw [List.getElem?_append_right hj2] at hj
      have hj3 := (List.getElem?_eq_some_iff.1 hj).1
      simp only [List.length_cons, List.length_nil] at hj3
      have : j = n := by omega
      subst this
      rw [hl, Nat.sub_self] at hj
      cases hj
      exact hx
theorem add_add (a : Addr) (m k : Nat) : (a.add m).add k = a.add (m + k) := by
  by_cases hk : k = 0
  · subst hk; simp [Addr.add]
  · rw [add_field a m k (by omega)]
    generalize a.add m = b
    simp [Addr.add, hk]
theorem of_trod {H : Type} {enc : TypeId × Value → H} {W : World} {base : Nat} {sp : Nat → Bool} {held : Bool} (N : Nat) : ∀ fuel, fuel < N → ∀ cs y, DataW.trod enc Try.prog W base sp held fuel 43 cs = some y → ∃ x, k43.K W x cs := by
  induction N with
  | zero => intro f h; omega
  | succ N ih =>
    intro fuel hf cs y h
    obtain ⟨xs, n, rfl, _, hl, hlen, hfld⟩ := DataW.trod_struct Try.underlying43 h
    have e43 : Try.prog.cellsOf 43 = 3 := by kernel_rfl
    have e9 : Try.prog.cellsOf 9 = 1 := by kernel_rfl
    have e4 : Try.prog.cellsOf 4 = 1 := by kernel_rfl
    have e41 : Try.prog.cellsOf 41 = 1 := by kernel_rfl
    rw [e43] at hl
    match xs, hlen with
    | [y0, y1, y2], _ =>
      match cs, hl with
      | [v0, v1, v2], _ =>
        have h0 : DataW.trod enc Try.prog W base sp held n 9 [v0] = some y0 := by simpa [e9] using hfld 0 _ rfl
        have h1 : DataW.trod enc Try.prog W base sp held n 4 [v1] = some y1 := by simpa [e4] using hfld 1 _ rfl
        have h2 : DataW.trod enc Try.prog W base sp held n 41 [v2] = some y2 := by simpa [e41] using hfld 2 _ rfl
        obtain ⟨t, ht, _⟩ := DataW.trod_string Try.underlying9 h0
        obtain ⟨b, hb, _⟩ := DataW.trod_bool Try.underlying4 h1
        simp at ht hb
        subst ht hb
        rcases DataW.trod_slice Try.underlying41 h2 with ⟨hs, _⟩ | ⟨a, len, cap, elems, rest, m, hm, hs, _, hba, hlc, hcm, hel, heach, _⟩
        · simp at hs
          subst hs
          exact ⟨⟨t, b, []⟩, k43_mk W ⟨t, b, []⟩ (A2 := none) (c2 := 0) (Nat.le_refl _) (C_nil W none)⟩
        · simp at hs
          subst hs
          obtain ⟨ps, hpl, hp⟩ := choose_list (Q := fun i (x : S43) => ∃ c, c.length = 3 ∧ k43.K W x c ∧ ∀ k u, c[k]? = some u → W.cell? (a.add (i * 3 + k)) = some u) len fun i hi => by
            have h3 := heach i hi
            rw [List.getElem?_eq_getElem (by omega), Option.bind_eq_some_iff] at h3
            obtain ⟨c, hc, hy⟩ := h3
            obtain ⟨x, hx⟩ := ih m (by omega) c _ hy
            rw [e43] at hc
            obtain ⟨_, hcl, hcc⟩ := World.cells?_some hc
            refine ⟨x, c, hcl, hx, fun k u hu => ?_⟩
            have hk : k < 3 := by rw [← hcl]; exact (List.getElem?_eq_some_iff.1 hu).1
            rw [← add_add, hcc k hk, hu]
          refine ⟨⟨t, b, ps⟩, ?_⟩
          have hC : Kd.C k43 W (some a) ps.length ps := ⟨rfl, by simp only [maxLen] at hcm; omega, fun _ => ⟨a, rfl, hp⟩⟩
          have := k43_mk W ⟨t, b, ps⟩ (A2 := some a) (c2 := cap) (by simp only; omega) hC
          rw [← hpl]
          exact this
theorem came_of {H : Type} {enc : TypeId × Value → H} {W : World} {base : Nat} {sp : Nat → Bool} {held : Bool} {v : Value} {d : DataW H} {ps : List MemPlace} (hv : ∃ a0 a1 a2, v = .agg #[a0, a1, a2])
    (h : DataW.Trod enc Try.prog W base sp held 43 v d ps) : ∃ x A c, v = .agg #[.string x.f0, .bool x.f1, .slice A x.f2.length c] ∧ Came x A c W := by
  obtain ⟨fuel, hf⟩ := h
  obtain ⟨x, hx⟩ := of_trod (fuel + 1) fuel (by omega) _ _ hf
  obtain ⟨A, c, e, hl, hC⟩ := k43_open hx
  obtain ⟨a0, a1, a2, rfl⟩ := hv
  simp [Value.cells] at e
  obtain ⟨rfl, rfl, rfl⟩ := e
  exact ⟨x, A, c, rfl, hC, hl⟩
end Go.Proofs.Ytkdkdjhdoplicaa.It
