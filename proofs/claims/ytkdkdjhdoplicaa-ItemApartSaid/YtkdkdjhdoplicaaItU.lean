/- What is turned in a copy: its rows are its own, two levels deep. -/
import Derived.Test.YtkdkdjhdoplicaaItR
import Derived.Test.YtkdkdjhdoplicaaItQ
namespace Go.Proofs.Ytkdkdjhdoplicaa.It
open Go.RowKit Go.Proofs.YtkdkdjhdoplicaaW.PrintWords Go.Proofs.YtkdkdjhdoplicaaW.PrintLast Go.Proofs.YtkdkdjhdoplicaaW.PrintMore Go.Proofs.Ytkdkdjhdoplicaa.Md

/-- element i of row g may be turned: its text and its List -/
structure El (w : World) (g i : Nat) : Prop where
  t : ∃ t, w.cell? ⟨g, i * 3, none⟩ = some (.string t)
  b : ∃ b, w.cell? ⟨g, i * 3 + 1, none⟩ = some (.bool b)
  ft : w.frozen? ⟨g, i * 3, none⟩ = false
  fb : w.frozen? ⟨g, i * 3 + 1, none⟩ = false
/-- n elements at A, in a block between B and U -/
def Ro (w : World) (B U : Nat) (A : Option Addr) (n : Nat) : Prop := ∀ i, i < n → ∃ g, A = some ⟨g, 0, none⟩ ∧ B ≤ g ∧ g < U ∧ El w g i
def Sh (w : World) (B U : Nat) (A : Option Addr) (s : List S43) : Prop :=
  Ro w B U A s.length ∧ ∀ i (h : i < s.length) g, A = some ⟨g, 0, none⟩ → ∃ A2 c2, w.cell? ⟨g, i * 3 + 2, none⟩ = some (.slice A2 (s[i]'h).f2.length c2) ∧ Ro w B U A2 (s[i]'h).f2.length
theorem El.str {w : World} {g i : Nat} (h : El w g i) {g' m : Nat} {u u0 : ByteArray} (h0 : w.cell? ⟨g', m * 3, none⟩ = some (.string u0)) : El (w.setCell ⟨g', m * 3, none⟩ (.string u)) g i := by
  obtain ⟨⟨t, ht⟩, ⟨b, hb⟩, f1, f2⟩ := h
  refine ⟨?_, ⟨b, ?_⟩, by simpa using f1, by simpa using f2⟩
  · by_cases e : (⟨g', m * 3, none⟩ : Addr) = ⟨g, i * 3, none⟩
    · rw [← e]
      exact ⟨u, World.cell?_setCell_same _ _ _ h0⟩
    · exact ⟨t, by rw [World.cell?_setCell_other _ _ _ _ e]; exact ht⟩
  · rw [World.cell?_setCell_other _ _ _ _ (by intro e; injection e with _ e2; omega)]
    exact hb
theorem El.boo {w : World} {g i : Nat} (h : El w g i) {g' m : Nat} {u u0 : Bool} (h0 : w.cell? ⟨g', m * 3 + 1, none⟩ = some (.bool u0)) : El (w.setCell ⟨g', m * 3 + 1, none⟩ (.bool u)) g i := by
  obtain ⟨⟨t, ht⟩, ⟨b, hb⟩, f1, f2⟩ := h
  refine ⟨⟨t, ?_⟩, ?_, by simpa using f1, by simpa using f2⟩
  · rw [World.cell?_setCell_other _ _ _ _ (by intro e; injection e with _ e2; omega)]
    exact ht
  · by_cases e : (⟨g', m * 3 + 1, none⟩ : Addr) = ⟨g, i * 3 + 1, none⟩
    · rw [← e]
      exact ⟨u, World.cell?_setCell_same _ _ _ h0⟩
    · exact ⟨b, by rw [World.cell?_setCell_other _ _ _ _ e]; exact hb⟩
theorem Sh.str {w : World} {B U : Nat} {A : Option Addr} {s : List S43} (h : Sh w B U A s) {g' m : Nat} {u u0 : ByteArray} (h0 : w.cell? ⟨g', m * 3, none⟩ = some (.string u0)) : Sh (w.setCell ⟨g', m * 3, none⟩ (.string u)) B U A s := by
  have ro : ∀ {A n}, Ro w B U A n → Ro (w.setCell ⟨g', m * 3, none⟩ (.string u)) B U A n := fun hr i hi => by
    obtain ⟨g, e, a, b, c⟩ := hr i hi
    exact ⟨g, e, a, b, c.str h0⟩
  refine ⟨ro h.1, fun i hi g e => ?_⟩
  obtain ⟨A2, c2, k1, k2⟩ := h.2 i hi g e
  exact ⟨A2, c2, by rw [World.cell?_setCell_other _ _ _ _ (by intro e; injection e with _ e2; omega)]; exact k1, ro k2⟩
theorem Sh.boo {w : World} {B U : Nat} {A : Option Addr} {s : List S43} (h : Sh w B U A s) {g' m : Nat} {u u0 : Bool} (h0 : w.cell? ⟨g', m * 3 + 1, none⟩ = some (.bool u0)) : Sh (w.setCell ⟨g', m * 3 + 1, none⟩ (.bool u)) B U A s := by
  have ro : ∀ {A n}, Ro w B U A n → Ro (w.setCell ⟨g', m * 3 + 1, none⟩ (.bool u)) B U A n := fun hr i hi => by
    obtain ⟨g, e, a, b, c⟩ := hr i hi
    exact ⟨g, e, a, b, c.boo h0⟩
  refine ⟨ro h.1, fun i hi g e => ?_⟩
  obtain ⟨A2, c2, k1, k2⟩ := h.2 i hi g e
  exact ⟨A2, c2, by rw [World.cell?_setCell_other _ _ _ _ (by intro e; injection e with _ e2; omega)]; exact k1, ro k2⟩
/-- A world in which the blocks between B and U are as they were. -/
theorem Sh.same {w w' : World} {B U : Nat} {A : Option Addr} {s : List S43} (h : Sh w B U A s) (hw : ∀ k, B ≤ k → k < U → w'.heap[k]? = w.heap[k]?) : Sh w' B U A s := by
  have cc : ∀ {g o}, B ≤ g → g < U → w'.cell? ⟨g, o, none⟩ = w.cell? ⟨g, o, none⟩ := fun h1 h2 => World.cell?_of_block (a := ⟨_, _, none⟩) (hw _ h1 h2)
  have ff : ∀ {g o}, B ≤ g → g < U → w'.frozen? ⟨g, o, none⟩ = w.frozen? ⟨g, o, none⟩ := fun h1 h2 => World.frozen?_of_block (a := ⟨_, _, none⟩) (hw _ h1 h2)
  have el : ∀ {g i}, B ≤ g → g < U → El w g i → El w' g i := fun h1 h2 ⟨a, b, c, d⟩ => ⟨by rw [cc h1 h2]; exact a, by rw [cc h1 h2]; exact b, by rw [ff h1 h2]; exact c, by rw [ff h1 h2]; exact d⟩
  have ro : ∀ {A n}, Ro w B U A n → Ro w' B U A n := fun hr i hi => by
    obtain ⟨g, e, a, b, c⟩ := hr i hi
    exact ⟨g, e, a, b, el a b c⟩
  refine ⟨ro h.1, fun i hi g e => ?_⟩
  obtain ⟨A2, c2, k1, k2⟩ := h.2 i hi g e
  obtain ⟨g', e', a, b, _⟩ := h.1 i hi
  rw [e] at e'
  cases e'
  exact ⟨A2, c2, by rw [cc a b]; exact k1, ro k2⟩
theorem add_zero (g j : Nat) : ((⟨g, 0, none⟩ : Addr).add j) = ⟨g, j, none⟩ := by
  unfold Addr.add
  by_cases h : j = 0
  · simp [h]
  · simp [h]
theorem row_of_R {w : World} {B : Nat} {ok : Nat → Prop} {v : Value} {s : List S43} (h : Kd.R k43 43 w B ok v s) :
    ∃ A c, v = .slice A s.length c ∧ Ro w B w.heap.size A s.length ∧ ∀ i (hi : i < s.length) g, A = some ⟨g, 0, none⟩ → ∃ v2, w.cell? ⟨g, i * 3 + 2, none⟩ = some v2 ∧ ∃ ok', Kd.R k43 43 w B ok' v2 (s[i]'hi).f2 := by
  obtain ⟨_, inner, ho, hr⟩ := h
  rcases ho.2 with ⟨rfl, h0⟩ | ⟨g, cap, cur, rfl, hB, hb, r⟩
  · exact ⟨none, 0, by rw [h0], fun i hi => by omega, fun i hi => by omega⟩
  · have hc := fun j u (hu : inner[j]? = some u) => by have := ho.cells (g := g) rfl j u hu; rwa [add_zero] at this
    have key : ∀ i (hi : i < s.length), ∃ v2, inner[i * 3]? = some (.string (s[i]'hi).f0) ∧ inner[i * 3 + 1]? = some (.bool (s[i]'hi).f1) ∧ inner[i * 3 + 2]? = some v2 ∧ ∃ ok', Kd.R k43 43 w B ok' v2 (s[i]'hi).f2 := by
      intro i hi
      have hM := hr.2 i _ (List.getElem?_eq_getElem hi)
      obtain ⟨v2, e, hR⟩ := k43_openM hM
      have g0 : ∀ j, j < 3 → inner[i * 3 + j]? = ([.string (s[i]'hi).f0, .bool (s[i]'hi).f1, v2] : List Value)[j]? := by
        intro j hj
        rw [← e, List.getElem?_take, if_pos (show j < k43.sz from hj), List.getElem?_drop]
        rfl
      exact ⟨v2, g0 0 (by omega), g0 1 (by omega), g0 2 (by omega), _, hR⟩
    refine ⟨_, cap, rfl, fun i hi => ⟨g, rfl, hB, blk_lt hb, ?_⟩, fun i hi g' e => ?_⟩
    · obtain ⟨v2, k0, k1, k2, _⟩ := key i hi
      exact ⟨⟨_, hc _ _ k0⟩, ⟨_, hc _ _ k1⟩, blk_frozen hb _, blk_frozen hb _⟩
    · cases e
      obtain ⟨v2, k0, k1, k2, hR⟩ := key i hi
      exact ⟨v2, hc _ _ k2, hR⟩
theorem sh_of_R {w : World} {B : Nat} {ok : Nat → Prop} {v : Value} {s : List S43} (h : Kd.R k43 43 w B ok v s) : ∃ A c, v = .slice A s.length c ∧ Sh w B w.heap.size A s := by
  obtain ⟨A, c, e, h1, h2⟩ := row_of_R h
  refine ⟨A, c, e, h1, fun i hi g hg => ?_⟩
  obtain ⟨v2, k1, ok', hR⟩ := h2 i hi g hg
  obtain ⟨A2, c2, e2, k2, _⟩ := row_of_R hR
  exact ⟨A2, c2, by rw [k1, e2], k2⟩
end Go.Proofs.Ytkdkdjhdoplicaa.It
