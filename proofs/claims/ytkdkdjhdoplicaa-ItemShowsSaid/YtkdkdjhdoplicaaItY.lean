/- An item that came in: what the functions that only read it answer. -/
import Derived.Test.YtkdkdjhdoplicaaItR
import Derived.Test.YtkdkdjhdoplicaaItQ
namespace Go.Proofs.Ytkdkdjhdoplicaa.It
open Go.RowKit Go.Proofs.YtkdkdjhdoplicaaW.PrintWords Go.Proofs.YtkdkdjhdoplicaaW.PrintLast Go.Proofs.YtkdkdjhdoplicaaW.PrintMore Go.Proofs.Ytkdkdjhdoplicaa.Md

/-- an item that came in: how it lies, and what the functions that only read it answer -/
structure Came (x : S43) (A : Option Addr) (c : Nat) (w : World) : Prop where
  rd : Kd.C k43 w A x.f2.length x.f2
  le : x.f2.length ≤ c
theorem Came.isGreat {x : S43} {A : Option Addr} {c : Nat} {w : World} (h : Came x A c w) : ∀ W, Below w.heap.size w W → Calls Try.prog 22 #[.agg #[.string x.f0, .bool x.f1, .slice A x.f2.length c]] W fun e w' => e = .returned (.bool (great x)) ∧ Below W.heap.size W w' := by
  obtain ⟨k, hk⟩ := (great_ev x (fit_C h.rd)).rounds
  exact fun W hW => hatchwaylaw08_Great.calls k _ _ _ _ _ _ W (Kd.C_below h.rd hW) h.le hk
theorem Came.isMay {x : S43} {A : Option Addr} {c : Nat} {w : World} (h : Came x A c w) (hg : great x = false) : ∀ W, Below w.heap.size w W → Calls Try.prog 23 #[.agg #[.string x.f0, .bool x.f1, .slice A x.f2.length c]] W fun e w' => e = .returned (.bool (may x)) ∧ Below W.heap.size W w' := by
  obtain ⟨k, hk⟩ := (may_ev x (fit_C h.rd) (by have := great_no hg; omega)).rounds
  exact fun W hW => hatchwayref08_May.calls k _ _ _ _ _ _ W (Kd.C_below h.rd hW) h.le hk
theorem Came.isShown {x : S43} {A : Option Addr} {c : Nat} {w : World} (h : Came x A c w) (hg : great x = false) : ∀ W, Below w.heap.size w W → Calls Try.prog 24 #[.agg #[.string x.f0, .bool x.f1, .slice A x.f2.length c]] W fun e w' => e = .returned (.string (bs (shw x))) ∧ Below W.heap.size W w' := by
  obtain ⟨k, hk⟩ := (show_ev (cnt x + 1) x (by omega) (fit_C h.rd) (by have := great_no hg; omega)).rounds
  exact fun W hW => hatchwayref08_Show.calls k _ _ _ _ _ _ W (Kd.C_below h.rd hW) h.le hk
theorem Came.isCopied {x : S43} {A : Option Addr} {c : Nat} {w : World} (h : Came x A c w) (hm : may x = true) : ∀ W, Below w.heap.size w W → Calls Try.prog 25 #[.agg #[.string x.f0, .bool x.f1, .slice A x.f2.length c]] W (Copied x W) := by
  have hc : cnt x ≤ 1000000 := by simp only [may, Bool.and_eq_true, decide_eq_true_eq] at hm; omega
  obtain ⟨k, hk⟩ := (copied_ev (cnt x + 1) x (by omega) (fit_C h.rd) hc).rounds
  exact fun W hW => copy_calls k x A c W (Kd.C_below h.rd hW) h.le hm hk

end Go.Proofs.Ytkdkdjhdoplicaa.It
