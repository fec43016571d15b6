/- A world that turned only at some blocks, and grew. -/
import Derived.Test.YtkdkdjhdoplicaaWWords
namespace Go.Proofs.Ytkdkdjhdoplicaa.Md
open Go.RowKit Go.Proofs.YtkdkdjhdoplicaaW.PrintWords

/-- w' is w but for the blocks of S, and new ones. -/
structure Mod (S : Nat → Prop) (w w' : World) : Prop where
  os : w'.os = w.os
  tape : w'.tape = w.tape
  output : w'.output = w.output
  size : w.heap.size ≤ w'.heap.size
  block : ∀ i, i < w.heap.size → ¬ S i → w'.heap[i]? = w.heap[i]?

variable {S T : Nat → Prop} {w w1 w2 : World}
theorem Mod.refl (S : Nat → Prop) (w : World) : Mod S w w := ⟨rfl, rfl, rfl, Nat.le_refl _, fun _ _ _ => rfl⟩
theorem Mod.trans (h : Mod S w w1) (k : Mod T w1 w2) (hst : ∀ i, i < w.heap.size → T i → S i) : Mod S w w2 :=
  ⟨k.os.trans h.os, k.tape.trans h.tape, k.output.trans h.output, Nat.le_trans h.size k.size,
    fun i hi hs => (k.block i (Nat.lt_of_lt_of_le hi h.size) (fun ht => hs (hst i hi ht))).trans (h.block i hi hs)⟩
theorem Mod.same (h : Mod S w w1) (k : Mod S w1 w2) : Mod S w w2 := h.trans k fun _ _ h => h
theorem Mod.mono (h : Mod S w w1) (hst : ∀ i, i < w.heap.size → S i → T i) : Mod T w w1 := ⟨h.os, h.tape, h.output, h.size, fun i hi hs => h.block i hi fun h => hs (hst i hi h)⟩
theorem Mod.of_below (S : Nat → Prop) (h : Below w.heap.size w w1) : Mod S w w1 := ⟨h.os, h.tape, h.output, h.size, fun i hi _ => h.block i hi⟩
theorem Mod.of_grown {row : Option Nat} (h : w.grownBy w1 row) : Mod (fun i => some i = row) w w1 := ⟨h.os, h.tape, h.output, h.size, fun i hi hs => h.block i hi hs⟩
theorem Mod.alloc (h : Mod S w w1) (o : Obj) : Mod S w (w1.alloc o) := h.trans (Mod.of_below S ((Below.refl _ _).alloc (Nat.le_refl _) o)) fun _ _ h => h
theorem Mod.drew (h : Mod S w w1) : Mod S w w1.drew := ⟨h.os, h.tape, h.output, h.size, h.block⟩
theorem Mod.drewN (h : Mod S w w1) (n : Nat) : Mod S w (w1.drewN n) := ⟨h.os, h.tape, h.output, h.size, h.block⟩
theorem Mod.setCell (h : Mod S w w1) (p : Addr) (u : Value) (hp : S p.block ∨ w.heap.size ≤ p.block) : Mod S w (w1.setCell p u) := by
  refine ⟨?_, ?_, ?_, ?_, ?_⟩
  · exact h.os
  · exact h.tape
  · exact h.output
  · simpa using h.size
  · intro i hi hs
    rw [Below.heap_setCell w1 p u i (by rintro rfl; rcases hp with hp | hp; exact hs hp; omega)]
    exact h.block i hi hs
theorem Mod.blk (h : Mod S w w1) {g : Nat} {o : Obj} (hb : w.heap[g]? = some o) (hs : ¬ S g) : w1.heap[g]? = some o := (h.block g (blk_lt hb) hs).trans hb
theorem Mod.below (hm : Mod S w1 w2) {B : Nat} {w0 : World} (hb : Below B w0 w1) (hB : B ≤ w1.heap.size) (hs : ∀ i, S i → B ≤ i) : Below B w0 w2 :=
  ⟨hm.os.trans hb.os, hm.tape.trans hb.tape, hm.output.trans hb.output, Nat.le_trans hb.size hm.size,
    fun i hi => (hm.block i (Nat.lt_of_lt_of_le hi hB) (fun h => by have := hs i h; omega)).trans (hb.block i hi)⟩
theorem Mod.of_drawn (S : Nat → Prop) (h : Drawn0 w w1) : Mod S w w1 := Mod.of_below S h.below

theorem blk_at_cells {g i : Nat} {t : TypeId} {cs : Array Value} {v : Value} (h : w.heap[g]? = some (.cells cs t (0, 0))) (hv : cs[i]? = some v) : w.cell? ⟨g, i, none⟩ = some v := (blk_cell h i).trans hv

/-- What is owned stays owned where its block is none that turned. -/
theorem own_mod {base n : Nat} {e : TypeId} {size : Nat} {v : Value} {xs : List Value} (h : w.ownsRow base e size v n xs) (hm : Mod S w w1) (hs : ∀ k, v.ownBlock = some k → ¬ S k) : w1.ownsRow base e size v n xs := by
  refine ⟨h.1, ?_⟩
  rcases h.2 with h0 | ⟨g, cap, cur, rfl, hb, hh, h1, h2, h3⟩
  · exact .inl h0
  · exact .inr ⟨g, cap, cur, rfl, hb, hm.blk hh (hs g rfl), h1, h2, h3⟩

end Go.Proofs.Ytkdkdjhdoplicaa.Md
