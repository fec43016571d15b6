/- cursor: the reader's methods, each by a contract. -/
import Derived.Test.YtpceignbgnekmaaProg
import Derived.Test.YtpceignbgnekmaaMod
import Derived.Test.YtpceignbgnekmaaBy
import Derived.Test.YtpceignbgnekmaaWMore
namespace Go.Proofs.Ytpceignbgnekmaa.Cur
open Go.RowKit Go.Proofs.YtpceignbgnekmaaW.PrintWords Go.Proofs.Ytpceignbgnekmaa.By Go.Proofs.Ytpceignbgnekmaa.Md

/-- block g is a reader of s, at a place, with a fault -/
def Rd (w : World) (g : Nat) (s : ByteArray) (a : Nat) (f : Int) : Prop := w.heap[g]? = some (.cells #[.string s, .int .i64 a, .int .i64 f] 57 (0, 0))
abbrev Ptr (g : Nat) : Value := .pointer (some ⟨g, 0, none⟩)

section
variable {w : World} {g : Nat} {s : ByteArray} {a : Nat} {f : Int}
theorem Rd.c0 (h : Rd w g s a f) : w.cell? ⟨g, 0, none⟩ = some (.string s) := blk_at_cells h rfl
theorem Rd.c1 (h : Rd w g s a f) : w.cell? ⟨g, 1, none⟩ = some (.int .i64 a) := blk_at_cells h rfl
theorem Rd.c2 (h : Rd w g s a f) : w.cell? ⟨g, 2, none⟩ = some (.int .i64 f) := blk_at_cells h rfl
theorem Rd.f1 (h : Rd w g s a f) : w.frozen? ⟨g, 1, none⟩ = false := blk_frozen h 1
theorem Rd.f2 (h : Rd w g s a f) : w.frozen? ⟨g, 2, none⟩ = false := blk_frozen h 2
theorem Rd.set1 (h : Rd w g s a f) (x : Nat) : Rd (w.setCell ⟨g, 1, none⟩ (.int .i64 x)) g s x f := blk_put h 1 _ rfl
theorem Rd.set2 (h : Rd w g s a f) (x : Int) : Rd (w.setCell ⟨g, 2, none⟩ (.int .i64 x)) g s a x := blk_put h 2 _ rfl
theorem Rd.drewN (h : Rd w g s a f) (n : Nat) : Rd (w.drewN n) g s a f := h
theorem Rd.alloc (h : Rd w g s a f) (o : Obj) : Rd (w.alloc o) g s a f := blk_alloc h o
end

theorem fault_calls (w : World) (g : Nat) (s : ByteArray) (a : Nat) (f : Int) (h : Rd w g s a f) :
    Calls Try.prog 26 #[Ptr g] w fun e w' => e = .returned (.int .i64 f) ∧ w = w' := by
  have c2 := h.c2
  clear h
  go_enter Try.func26, Try.ntmps26
  go_wp2
  go_ret
  exact ⟨rfl, rfl⟩

theorem at_calls (w : World) (g : Nat) (s : ByteArray) (a : Nat) (f : Int) (h : Rd w g s a f) :
    Calls Try.prog 24 #[Ptr g] w fun e w' => e = .returned (.int .i64 a) ∧ w = w' := by
  have c2 := h.c1
  clear h
  go_enter Try.func24, Try.ntmps24
  go_wp2
  go_ret
  exact ⟨rfl, rfl⟩

theorem left_calls (w : World) (g : Nat) (s : ByteArray) (a : Nat) (f : Int) (h : Rd w g s a f) (ha : a ≤ s.size) (hs : s.size ≤ 9223372036854775807) :
    Calls Try.prog 22 #[Ptr g] w fun e w' => e = .returned (.int .i64 ((s.size - a : Nat) : Int)) ∧ Drawn0 w w' := by
  have c0 := h.c0
  have c1 := h.c1
  have e : IntKind.i64.wrap ((s.size : Int) - (a : Int)) = ((s.size - a : Nat) : Int) := by rw [IntKind.wrap_i64]; omega
  clear h
  go_enter Try.func22, Try.ntmps22
  go_wp2
  go_quiet (fail)
  go_wp2
  go_ret
  exact ⟨rfl, ⟨⟨_, rfl⟩⟩⟩
theorem fail0_calls (w : World) (g : Nat) (s : ByteArray) (a : Nat) (h : Rd w g s a 0) (x : Int) :
    Calls Try.prog 41 #[Ptr g, .int .i64 x] w fun e w' => e = .returned (.tuple #[]) ∧ w.setCell ⟨g, 2, none⟩ (.int .i64 x) = w' := by
  have hf := h.f2
  have c2 := h.c2
  have H := Aside0.mk h
  clear h
  go_enter Try.func41, Try.ntmps41
  go_wp2_with fail
  refine (fault_calls _ _ _ _ _ H.out).mono ?_
  rintro e w1 ⟨rfl, rfl⟩
  go_wp2_with fail
  go_end0
  exact ⟨rfl, rfl⟩

theorem fail1_calls (w : World) (g : Nat) (s : ByteArray) (a : Nat) (f : Int) (hf : f ≠ 0) (h : Rd w g s a f) (x : Int) :
    Calls Try.prog 41 #[Ptr g, .int .i64 x] w fun e w' => e = .returned (.tuple #[]) ∧ w = w' := by
  have hfb : (f == 0) = false := beq_eq_false_iff_ne.mpr hf
  have H := Aside0.mk h
  clear h hf
  go_enter Try.func41, Try.ntmps41
  go_wp2_with fail
  refine (fault_calls _ _ _ _ _ H.out).mono ?_
  rintro e w1 ⟨rfl, rfl⟩
  go_wp2_with fail
  go_end0
  exact ⟨rfl, rfl⟩

/-- the closure in Take: told of nothing bad -/
theorem check_no (w : World) (p : Addr) (x : Int) : Calls Try.prog 40 #[.bool false, .int .i64 x, .pointer (some p)] w fun e w' => e = .returned (.tuple #[]) ∧ w = w' := by
  go_enter Try.func40, Try.ntmps40
  go_wp2_with fail
  go_end0
  exact ⟨rfl, rfl⟩

theorem check_yes0 (w : World) (p : Addr) (g : Nat) (s : ByteArray) (a : Nat) (hp : w.cell? p = some (Ptr g)) (h : Rd w g s a 0) (x : Int) :
    Calls Try.prog 40 #[.bool true, .int .i64 x, .pointer (some p)] w fun e w' => e = .returned (.tuple #[]) ∧ Rd w' g s a x ∧ Mod (· = g) w w' := by
  have H := Aside0.mk h
  clear h
  go_enter Try.func40, Try.ntmps40
  go_wp2_with fail
  refine (fail0_calls _ _ _ _ H.out _).mono ?_
  rintro e w1 ⟨rfl, rfl⟩
  go_wp2_with fail
  go_end0
  exact ⟨rfl, H.out.set2 x, (Mod.refl _ _).setCell _ _ (.inl rfl)⟩

theorem check_yes1 (w : World) (p : Addr) (g : Nat) (s : ByteArray) (a : Nat) (f : Int) (hp : w.cell? p = some (Ptr g)) (hf : f ≠ 0) (h : Rd w g s a f) (x : Int) :
    Calls Try.prog 40 #[.bool true, .int .i64 x, .pointer (some p)] w fun e w' => e = .returned (.tuple #[]) ∧ w = w' := by
  have H := Aside0.mk h
  have HF := Aside0.mk hf
  clear h hf
  go_enter Try.func40, Try.ntmps40
  go_wp2_with fail
  refine (fail1_calls _ _ _ _ _ HF.out H.out _).mono ?_
  rintro e w1 ⟨rfl, rfl⟩
  go_wp2_with fail
  go_end0
  exact ⟨rfl, rfl⟩

/-- what Take tells, passes and faults -/
def tk (s : ByteArray) (a : Nat) (f n : Int) : ByteArray × Nat × Int :=
  if f ≠ 0 then (⟨#[]⟩, a, f) else if n < 0 then (⟨#[]⟩, a, 1) else if ((s.size - a : Nat) : Int) < n then (⟨#[]⟩, a, 2) else (s.extract a (a + n.toNat), a + n.toNat, 0)

/-- a call told a string, the reader went on -/
def Told (w : World) (g : Nat) (s : ByteArray) (r : ByteArray × Nat × Int) (e : Ending) (w' : World) : Prop :=
  e = .returned (.string r.1) ∧ Rd w' g s r.2.1 r.2.2 ∧ Mod (· = g) w w'

set_option maxRecDepth 100000 in
set_option maxHeartbeats 1000000 in
theorem take_ok (w : World) (g : Nat) (s : ByteArray) (a n : Nat) (h : Rd w g s a 0) (hs : s.size ≤ 9223372036854775807) (hn : a + n ≤ s.size) :
    Calls Try.prog 23 #[Ptr g, .int .i64 n] w fun e w' => Told w g s (s.extract a (a + n), a + n, 0) e w' := by
  have hlt := blk_lt h
  have hR1 : Rd (w.alloc (.cells #[Ptr g] 33)) g s a 0 := blk_alloc h _
  have hB1 : (w.alloc (.cells #[Ptr g] 33)).heap[w.heap.size]? = some (.cells #[Ptr g] 33 (0, 0)) := blk_new _ _
  have hM1 : Mod (· = g) w (w.alloc (.cells #[Ptr g] 33)) := (Mod.refl _ _).alloc _
  have hneg : decide ((n : Int) < 0) = false := decide_eq_false (by omega)
  have hleft : decide (s.size - a < n) = false := decide_eq_false (by omega)
  have hne : ¬ w.heap.size = g := by omega
  have hbnd : (a : Int) + n ≤ 9223372036854775807 := by omega
  have HR := Aside0.mk hR1
  have HB := Aside0.mk hB1
  have HM := Aside0.mk hM1
  clear h hR1 hB1 hM1
  go_enter Try.func23, Try.ntmps23
  go_wp2_with fail
  refine (check_no _ _ _).mono ?_
  rintro e w1 ⟨rfl, rfl⟩
  have hcB : (w.alloc (.cells #[Ptr g] 33)).cell? ⟨w.heap.size, 0, none⟩ = some (Ptr g) := blk_at_cells (i := 0) HB.out rfl
  go_wp2_with fail
  refine (left_calls _ _ _ _ _ HR.out (by omega) hs).mono ?_
  rintro e w1 ⟨rfl, ⟨⟨nq, rfl⟩⟩⟩
  go_wp2_with fail
  refine (check_no _ _ _).mono ?_
  rintro e w1 ⟨rfl, rfl⟩
  go_wp2_with fail
  refine (fault_calls _ g s a 0 (HR.out.drewN nq)).mono ?_
  rintro e w1 ⟨rfl, rfl⟩
  have hc1 := HR.out.c1
  have hf1 := HR.out.f1
  have hc0 := HR.out.c0
  go_wp2_with fail
  have hsum : IntKind.i64.wrap (a : Int) = (a : Int) := by rw [IntKind.wrap_i64]; omega
  have hsl := fun W => run_slice_string (P := Try.prog) (w := W) 9 s .i64 .i64 (a : Int) ((a : Int) + n) Try.underlying9 (by omega) (by omega) (by omega)
  have ht1 : ((a : Int) + (n : Int)).toNat = a + n := by omega
  rw [ht1, Int.toNat_natCast] at hsl
  go_quiet (fail)
  go_wp2
  go_ret
  refine ⟨rfl, ?_, ((HM.out.drewN _).setCell _ _ (.inl rfl)).drewN _⟩
  exact (show Rd _ g s (a + n) 0 from (HR.out.drewN _).set1 (a + n))

theorem check_fault (w : World) (p : Addr) (g : Nat) (s : ByteArray) (a : Nat) (f : Int) (b : Bool) (hp : w.cell? p = some (Ptr g)) (hf : f ≠ 0) (h : Rd w g s a f) (x : Int) :
    Calls Try.prog 40 #[.bool b, .int .i64 x, .pointer (some p)] w fun e w' => e = .returned (.tuple #[]) ∧ w = w' := by
  cases b
  · exact check_no w p x
  · exact check_yes1 w p g s a f hp hf h x

set_option maxRecDepth 100000 in
set_option maxHeartbeats 1000000 in
/-- a reader that faulted passes nothing -/
theorem take_faulted (w : World) (g : Nat) (s : ByteArray) (a : Nat) (f n : Int) (hf : f ≠ 0) (h : Rd w g s a f) (ha : a ≤ s.size) (hs : s.size ≤ 9223372036854775807) :
    Calls Try.prog 23 #[Ptr g, .int .i64 n] w fun e w' => Told w g s (⟨#[]⟩, a, f) e w' := by
  have hR1 : Rd (w.alloc (.cells #[Ptr g] 33)) g s a f := blk_alloc h _
  have hB1 : (w.alloc (.cells #[Ptr g] 33)).heap[w.heap.size]? = some (.cells #[Ptr g] 33 (0, 0)) := blk_new _ _
  have hM1 : Mod (· = g) w (w.alloc (.cells #[Ptr g] 33)) := (Mod.refl _ _).alloc _
  have hfb : (f != 0) = true := bne_iff_ne.mpr hf
  have HF := Aside0.mk hf
  have HR := Aside0.mk hR1
  have HB := Aside0.mk hB1
  have HM := Aside0.mk hM1
  obtain ⟨b1, hb1⟩ : ∃ b1, decide (n < 0) = b1 := ⟨_, rfl⟩
  clear h hR1 hB1 hM1 hf
  go_enter Try.func23, Try.ntmps23
  go_wp2_with fail
  refine (check_fault _ _ g s a f _ (blk_at_cells (i := 0) HB.out rfl) HF.out HR.out _).mono ?_
  rintro e w1 ⟨rfl, rfl⟩
  clear hb1
  have hcB : (w.alloc (.cells #[Ptr g] 33)).cell? ⟨w.heap.size, 0, none⟩ = some (Ptr g) := blk_at_cells (i := 0) HB.out rfl
  go_wp2_with fail
  refine (left_calls _ _ _ _ _ HR.out (by omega) hs).mono ?_
  rintro e w1 ⟨rfl, ⟨⟨nq, rfl⟩⟩⟩
  go_wp2_with fail
  refine (check_fault _ _ g s a f _ (blk_at_cells (i := 0) (blk_drewN HB.out nq) rfl) HF.out (HR.out.drewN nq) _).mono ?_
  rintro e w1 ⟨rfl, rfl⟩
  go_wp2_with fail
  refine (fault_calls _ g s a f (HR.out.drewN nq)).mono ?_
  rintro e w1 ⟨rfl, rfl⟩
  go_wp2_with fail
  go_ret
  exact ⟨rfl, HR.out.drewN nq, HM.out.drewN _⟩

set_option maxRecDepth 100000 in
set_option maxHeartbeats 1000000 in
theorem take_neg (w : World) (g : Nat) (s : ByteArray) (a : Nat) (n : Int) (hn : n < 0) (h : Rd w g s a 0) (ha : a ≤ s.size) (hs : s.size ≤ 9223372036854775807) :
    Calls Try.prog 23 #[Ptr g, .int .i64 n] w fun e w' => Told w g s (⟨#[]⟩, a, 1) e w' := by
  have hlt := blk_lt h
  have hR1 : Rd (w.alloc (.cells #[Ptr g] 33)) g s a 0 := blk_alloc h _
  have hB1 : (w.alloc (.cells #[Ptr g] 33)).heap[w.heap.size]? = some (.cells #[Ptr g] 33 (0, 0)) := blk_new _ _
  have hM1 : Mod (· = g) w (w.alloc (.cells #[Ptr g] 33)) := (Mod.refl _ _).alloc _
  have hneg : decide (n < 0) = true := decide_eq_true hn
  have hleft : decide (((s.size - a : Nat) : Int) < n) = false := decide_eq_false (by omega)
  have hne : ¬ w.heap.size = g := by omega
  have HR := Aside0.mk hR1
  have HB := Aside0.mk hB1
  have HM := Aside0.mk hM1
  clear h hR1 hB1 hM1
  go_enter Try.func23, Try.ntmps23
  go_wp2_with fail
  refine (check_yes0 _ _ g s a (blk_at_cells (i := 0) HB.out rfl) HR.out _).mono ?_
  rintro e w1 ⟨rfl, hr, hm⟩
  have HR1 := Aside0.mk hr
  have HB1 := Aside0.mk (hm.blk HB.out hne)
  have HM1 := Aside0.mk (HM.out.same hm)
  clear hr hm HR HB HM
  have hcB : w1.cell? ⟨w.heap.size, 0, none⟩ = some (Ptr g) := blk_at_cells (i := 0) HB1.out rfl
  go_wp2_with fail
  refine (left_calls _ _ _ _ _ HR1.out (by omega) hs).mono ?_
  rintro e w2 ⟨rfl, ⟨⟨nq, rfl⟩⟩⟩
  go_wp2_with fail
  refine (check_no _ _ _).mono ?_
  rintro e w2 ⟨rfl, rfl⟩
  go_wp2_with fail
  refine (fault_calls _ g s a 1 (HR1.out.drewN nq)).mono ?_
  rintro e w2 ⟨rfl, rfl⟩
  go_wp2_with fail
  go_ret
  exact ⟨rfl, HR1.out.drewN nq, HM1.out.drewN _⟩

set_option maxRecDepth 100000 in
set_option maxHeartbeats 1000000 in
theorem take_short (w : World) (g : Nat) (s : ByteArray) (a n : Nat) (h : Rd w g s a 0) (ha : a ≤ s.size) (hs : s.size ≤ 9223372036854775807) (hn : s.size < a + n) :
    Calls Try.prog 23 #[Ptr g, .int .i64 n] w fun e w' => Told w g s (⟨#[]⟩, a, 2) e w' := by
  have hlt := blk_lt h
  have hR1 : Rd (w.alloc (.cells #[Ptr g] 33)) g s a 0 := blk_alloc h _
  have hB1 : (w.alloc (.cells #[Ptr g] 33)).heap[w.heap.size]? = some (.cells #[Ptr g] 33 (0, 0)) := blk_new _ _
  have hM1 : Mod (· = g) w (w.alloc (.cells #[Ptr g] 33)) := (Mod.refl _ _).alloc _
  have hne : ¬ w.heap.size = g := by omega
  have hneg : decide ((n : Int) < 0) = false := decide_eq_false (by omega)
  have hleft : decide (s.size - a < n) = true := decide_eq_true (by omega)
  have HR := Aside0.mk hR1
  have HB := Aside0.mk hB1
  have HM := Aside0.mk hM1
  clear h hR1 hB1 hM1
  go_enter Try.func23, Try.ntmps23
  go_wp2_with fail
  refine (check_no _ _ _).mono ?_
  rintro e w1 ⟨rfl, rfl⟩
  have hcB : (w.alloc (.cells #[Ptr g] 33)).cell? ⟨w.heap.size, 0, none⟩ = some (Ptr g) := blk_at_cells (i := 0) HB.out rfl
  go_wp2_with fail
  refine (left_calls _ _ _ _ _ HR.out (by omega) hs).mono ?_
  rintro e w1 ⟨rfl, ⟨⟨nq, rfl⟩⟩⟩
  go_wp2_with fail
  refine (check_yes0 _ _ g s a (blk_at_cells (i := 0) (blk_drewN HB.out nq) rfl) (HR.out.drewN nq) _).mono ?_
  rintro e w1 ⟨rfl, hr, hm⟩
  have HR1 := Aside0.mk hr
  have hcB1 : w1.cell? ⟨w.heap.size, 0, none⟩ = some (Ptr g) := blk_at_cells (i := 0) (hm.blk (blk_drewN HB.out nq) hne) rfl
  have HM1 := Aside0.mk ((HM.out.drewN nq).same hm)
  clear hr hm HR HB HM
  go_wp2_with fail
  refine (fault_calls _ g s a 2 HR1.out).mono ?_
  rintro e w2 ⟨rfl, rfl⟩
  go_wp2_with fail
  go_ret
  exact ⟨rfl, HR1.out, HM1.out⟩

theorem take_calls (w : World) (g : Nat) (s : ByteArray) (a : Nat) (f n : Int) (h : Rd w g s a f) (ha : a ≤ s.size) (hs : s.size ≤ 9223372036854775807) :
    Calls Try.prog 23 #[Ptr g, .int .i64 n] w fun e w' => Told w g s (tk s a f n) e w' := by
  by_cases hf : f = 0
  · subst hf
    by_cases hn : n < 0
    · have e : tk s a 0 n = (⟨#[]⟩, a, 1) := by simp [tk, hn]
      rw [e]
      exact take_neg w g s a n hn h ha hs
    · obtain ⟨m, rfl⟩ := Int.eq_ofNat_of_zero_le (show 0 ≤ n by omega)
      by_cases hl : ((s.size - a : Nat) : Int) < (m : Int)
      · have e : tk s a 0 (m : Int) = (⟨#[]⟩, a, 2) := by rw [tk, if_neg (by simp), if_neg hn, if_pos hl]
        rw [e]
        exact take_short w g s a m h ha hs (by omega)
      · have e : tk s a 0 (m : Int) = (s.extract a (a + m), a + m, 0) := by rw [tk, if_neg (by simp), if_neg hn, if_neg hl, Int.toNat_natCast]
        rw [e]
        exact take_ok w g s a m h hs (by omega)
  · have e : tk s a f n = (⟨#[]⟩, a, f) := by rw [tk, if_pos hf]
    rw [e]
    exact take_faulted w g s a f n hf h ha hs
end Go.Proofs.Ytpceignbgnekmaa.Cur
