/- The acts of MeterPlays, opened out of the row's slice of structs. -/
import Derived.Test.YtkdkdjhdoplicaaPlays
import Derived.Deep.SlicePairs
import Derived.ProofKit
namespace Go.Proofs.Ytkdkdjhdoplicaa.Plays
open Go.RowKit Go.ChangeShapes Go.WideShapes Go.ChangeAt Go.Deep
theorem acts_of {H : Type} {enc : TypeId × Value → H} {W : World} {base : Nat} {held : Bool} {a : Option Addr} {len cap : Nat} {d : DataW H} {ps : List MemPlace}
    (h : DataW.Trod enc Try.prog W base (fun _ => true) held 31 (.slice a len cap) d ps) : IsActs W a len := by
  obtain ⟨fuel, hf⟩ := h
  rcases open_slice_pairs Try.underlying31 Try.underlying36 (by kernel_rfl) rfl rfl (by kernel_rfl) (by kernel_rfl) hf with ⟨hcs, _⟩ | ⟨x, l, c, m, n, V0, V1, D0, D1, P0, P1, hcs, _, hl, _, hm, _, hx⟩
  · simp [Value.cells] at hcs
    obtain ⟨rfl, rfl, rfl⟩ := hcs
    intro i hi
    omega
  · simp [Value.cells] at hcs
    obtain ⟨rfl, rfl, rfl⟩ := hcs
    intro i hi
    obtain ⟨c0, c1, t0, t1⟩ := hx i (by simp at hm; omega)
    obtain ⟨k, e0, _, wk⟩ := DataW.trod_int Try.underlying5 t0
    obtain ⟨q, e1, _, wq⟩ := DataW.trod_int Try.underlying3 t1
    simp only [List.cons.injEq, and_true] at e0 e1
    rw [e0] at c0
    rw [e1] at c1
    refine ⟨x, k, q, rfl, c0, c1, ?_, ?_⟩
    · simpa [Lit.wf, IntKind.min, IntKind.max, IntKind.signed, IntKind.bits] using wk
    · have : -9223372036854775808 ≤ q ∧ q ≤ 9223372036854775807 := by simpa [Lit.wf, IntKind.min, IntKind.max, IntKind.signed, IntKind.bits] using wq
      exact this.2
end Go.Proofs.Ytkdkdjhdoplicaa.Plays
