/- meter: the meter's methods, each by a contract. -/
import Derived.Test.YtkdkdjhdoplicaaProg
import Derived.Test.YtkdkdjhdoplicaaMod
import Derived.Test.YtkdkdjhdoplicaaWMore
namespace Go.Proofs.Ytkdkdjhdoplicaa.Met
open Go.RowKit Go.Proofs.YtkdkdjhdoplicaaW.PrintWords Go.Proofs.Ytkdkdjhdoplicaa.Md

/-- block g is a meter -/
def Mt (w : World) (g : Nat) (most used taken top : Int) : Prop := w.heap[g]? = some (.cells #[.int .i64 most, .int .i64 used, .int .i64 taken, .int .i64 top] 55 (0, 0))
abbrev Ptr (g : Nat) : Value := .pointer (some ⟨g, 0, none⟩)

section
variable {w : World} {g : Nat} {a b c d : Int}
theorem Mt.c0 (h : Mt w g a b c d) : w.cell? ⟨g, 0, none⟩ = some (.int .i64 a) := blk_at_cells h rfl
theorem Mt.c1 (h : Mt w g a b c d) : w.cell? ⟨g, 1, none⟩ = some (.int .i64 b) := blk_at_cells h rfl
theorem Mt.c2 (h : Mt w g a b c d) : w.cell? ⟨g, 2, none⟩ = some (.int .i64 c) := blk_at_cells h rfl
theorem Mt.c3 (h : Mt w g a b c d) : w.cell? ⟨g, 3, none⟩ = some (.int .i64 d) := blk_at_cells h rfl
theorem Mt.f (h : Mt w g a b c d) (i : Nat) : w.frozen? ⟨g, i, none⟩ = false := blk_frozen h i
theorem Mt.set1 (h : Mt w g a b c d) (x : Int) : Mt (w.setCell ⟨g, 1, none⟩ (.int .i64 x)) g a x c d := blk_put h 1 _ rfl
theorem Mt.set2 (h : Mt w g a b c d) (x : Int) : Mt (w.setCell ⟨g, 2, none⟩ (.int .i64 x)) g a b x d := blk_put h 2 _ rfl
theorem Mt.set3 (h : Mt w g a b c d) (x : Int) : Mt (w.setCell ⟨g, 3, none⟩ (.int .i64 x)) g a b c x := blk_put h 3 _ rfl
theorem Mt.alloc (h : Mt w g a b c d) (o : Obj) : Mt (w.alloc o) g a b c d := blk_alloc h o
end

theorem new_calls (w : World) (n m : Int) (hm : m = if n < 0 then 0 else n) :
    Calls Try.prog 9 #[.int .i64 n] w fun e w' => e = .returned (Ptr w.heap.size) ∧ Mt w' w.heap.size m 0 0 0 ∧ Below w.heap.size w w' := by
  have HM := Aside0.mk hm
  clear hm
  by_cases hn : n < 0
  · go_enter Try.func9, Try.ntmps9
    go_wp2
    go_ret
    refine ⟨rfl, ?_, (Below.refl _ _).alloc (Nat.le_refl _) _⟩
    rw [HM.out, if_pos hn]
    exact blk_new _ _
  · go_enter Try.func9, Try.ntmps9
    go_wp2
    go_ret
    refine ⟨rfl, ?_, (Below.refl _ _).alloc (Nat.le_refl _) _⟩
    rw [HM.out, if_neg (by omega)]
    exact blk_new _ _

theorem used_calls (w : World) (g : Nat) (a b c d : Int) (h : Mt w g a b c d) :
    Calls Try.prog 11 #[Ptr g] w fun e w' => e = .returned (.int .i64 b) ∧ w = w' := by
  have c1 := h.c1
  clear h
  go_enter Try.func11, Try.ntmps11
  go_wp2
  go_ret
  exact ⟨rfl, rfl⟩
theorem taken_calls (w : World) (g : Nat) (a b c d : Int) (h : Mt w g a b c d) :
    Calls Try.prog 12 #[Ptr g] w fun e w' => e = .returned (.int .i64 c) ∧ w = w' := by
  have c1 := h.c2
  clear h
  go_enter Try.func12, Try.ntmps12
  go_wp2
  go_ret
  exact ⟨rfl, rfl⟩
theorem top_calls (w : World) (g : Nat) (a b c d : Int) (h : Mt w g a b c d) :
    Calls Try.prog 13 #[Ptr g] w fun e w' => e = .returned (.int .i64 d) ∧ w = w' := by
  have c1 := h.c3
  clear h
  go_enter Try.func13, Try.ntmps13
  go_wp2
  go_ret
  exact ⟨rfl, rfl⟩
theorem most_calls (w : World) (g : Nat) (a b c d : Int) (h : Mt w g a b c d) :
    Calls Try.prog 20 #[Ptr g] w fun e w' => e = .returned (.int .i64 a) ∧ w = w' := by
  have c1 := h.c0
  clear h
  go_enter Try.func20, Try.ntmps20
  go_wp2
  go_ret
  exact ⟨rfl, rfl⟩

/-- a call told an error's number, the meter turned -/
def Told (w : World) (g : Nat) (x a b c d : Int) (e : Ending) (w' : World) : Prop := e = .returned (.int .i64 x) ∧ Mt w' g a b c d ∧ Mod (· = g) w w'

set_option maxRecDepth 100000 in
set_option maxHeartbeats 1000000 in
theorem take_neg (w : World) (g : Nat) (n a b c d : Int) (h : Mt w g a b c d) (hn : n < 0) :
    Calls Try.prog 10 #[Ptr g, .int .i64 n] w (Told w g 1 a b c d) := by
  have H := Aside0.mk h
  clear h
  have hnb : decide (n < 0) = true := decide_eq_true hn
  go_enter Try.func10, Try.ntmps10
  go_wp2
  go_ret
  exact ⟨rfl, (H.out.alloc _).alloc _, ((Mod.refl _ _).alloc _).alloc _⟩

section
variable (w : World) (bN bM : Nat) (g : Nat) (n a b c d : Int)

set_option maxRecDepth 100000 in
set_option maxHeartbeats 1000000 in
/-- Take's first closure: more than is left? -/
theorem over_yes (h : Mt w g a b c d) (cN : w.cell? ⟨bN, 0, none⟩ = some (.int .i64 n)) (cM : w.cell? ⟨bM, 0, none⟩ = some (Ptr g)) (hb : 0 ≤ b ∧ b ≤ a ∧ a ≤ 9223372036854775807) (hc : 0 ≤ c ∧ c ≤ 9223372036854775807) (ho : a - b < n ∨ 9223372036854775807 - c < n) :
    Calls Try.prog 31 #[.pointer (some ⟨bN, 0, none⟩), .pointer (some ⟨bM, 0, none⟩)] w fun e w' => e = .returned (.int .i64 5) ∧ Drawn0 w w' := by
  have hc0 := h.c0
  have hc1 := h.c1
  have hc2 := h.c2
  clear h
  have hab : IntKind.i64.wrap (a - b) = a - b := by rw [IntKind.wrap_i64]; omega
  by_cases h1 : a - b < n
  · have hb1 : decide (a - b < n) = true := decide_eq_true h1
    go_enter Try.func31, Try.ntmps31
    go_wp2
    go_quiet (fail)
    go_wp2
    go_ret
    exact ⟨rfl, ⟨⟨_, rfl⟩⟩⟩
  · have hb1 : decide (a - b < n) = false := decide_eq_false h1
    have hmc : IntKind.i64.wrap (9223372036854775807 - c) = 9223372036854775807 - c := by rw [IntKind.wrap_i64]; omega
    have hb2 : decide (9223372036854775807 - c < n) = true := decide_eq_true (by omega)
    go_enter Try.func31, Try.ntmps31
    go_wp2
    go_quiet (fail)
    go_wp2
    go_ret
    exact ⟨rfl, ⟨⟨_, rfl⟩⟩⟩

set_option maxRecDepth 100000 in
set_option maxHeartbeats 1000000 in
theorem over_no (h : Mt w g a b c d) (cN : w.cell? ⟨bN, 0, none⟩ = some (.int .i64 n)) (cM : w.cell? ⟨bM, 0, none⟩ = some (Ptr g)) (hb : 0 ≤ b ∧ b ≤ a ∧ a ≤ 9223372036854775807) (hc : 0 ≤ c ∧ c ≤ 9223372036854775807) (h1 : n ≤ a - b) (h2 : n ≤ 9223372036854775807 - c) :
    Calls Try.prog 31 #[.pointer (some ⟨bN, 0, none⟩), .pointer (some ⟨bM, 0, none⟩)] w fun e w' => e = .returned (.int .i64 0) ∧ Drawn0 w w' := by
  have hc0 := h.c0
  have hc1 := h.c1
  have hc2 := h.c2
  clear h
  have hab : IntKind.i64.wrap (a - b) = a - b := by rw [IntKind.wrap_i64]; omega
  have hb1 : decide (a - b < n) = false := decide_eq_false (by omega)
  have hmc : IntKind.i64.wrap (9223372036854775807 - c) = 9223372036854775807 - c := by rw [IntKind.wrap_i64]; omega
  have hb2 : decide (9223372036854775807 - c < n) = false := decide_eq_false (by omega)
  go_enter Try.func31, Try.ntmps31
  go_wp2
  go_quiet (fail)
  go_wp2
  go_ret
  exact ⟨rfl, ⟨⟨_, rfl⟩⟩⟩

set_option maxRecDepth 100000 in
set_option maxHeartbeats 1000000 in
/-- Take's second closure: the counts turn -/
theorem do_calls (h : Mt w g a b c d) (cN : w.cell? ⟨bN, 0, none⟩ = some (.int .i64 n)) (cM : w.cell? ⟨bM, 0, none⟩ = some (Ptr g)) (_hN : ¬ bN = g) (_hM : ¬ bM = g) (hn : 0 ≤ n) (hb : 0 ≤ b ∧ b ≤ a ∧ a ≤ 9223372036854775807) (hc : 0 ≤ c ∧ c ≤ 9223372036854775807) (h1 : n ≤ a - b) (h2 : n ≤ 9223372036854775807 - c) :
    Calls Try.prog 33 #[.pointer (some ⟨bM, 0, none⟩), .pointer (some ⟨bN, 0, none⟩)] w fun e w' => e = .returned (.tuple #[]) ∧ Mt w' g a (b + n) (c + n) (if d < b + n then b + n else d) ∧ Mod (· = g) w w' := by
  have hc0 := h.c0
  have hc1 := h.c1
  have hc2 := h.c2
  have hc3 := h.c3
  have hf := h.f
  have H := Aside0.mk h
  clear h
  have hs1 : IntKind.i64.wrap (b + n) = b + n := by rw [IntKind.wrap_i64]; omega
  have hs2 : IntKind.i64.wrap (c + n) = c + n := by rw [IntKind.wrap_i64]; omega
  go_enter Try.func33, Try.ntmps33
  go_wp2
  go_region
  go_wp2
  go_region
  go_wp2
  go_region
  go_end0
  refine ⟨rfl, ((H.out.set1 _).set2 _).set3 _, ?_⟩
  refine Mod.drew (Mod.drew (Mod.drew ?_))
  refine Mod.setCell ?_ _ _ (.inl rfl)
  refine Mod.setCell ?_ _ _ (.inl rfl)
  refine Mod.setCell ?_ _ _ (.inl rfl)
  exact Mod.refl _ _
end

section
variable (w : World) (g : Nat) (n a b c d : Int)

theorem boxes (h : Mt w g a b c d) (t1 t2 : TypeId) (v1 v2 : Value) :
    Mt ((w.alloc (.cells #[v1] t1)).alloc (.cells #[v2] t2)) g a b c d ∧ ((w.alloc (.cells #[v1] t1)).alloc (.cells #[v2] t2)).cell? ⟨w.heap.size, 0, none⟩ = some v1 ∧
    ((w.alloc (.cells #[v1] t1)).alloc (.cells #[v2] t2)).cell? ⟨w.heap.size + 1, 0, none⟩ = some v2 ∧ Mod (· = g) w ((w.alloc (.cells #[v1] t1)).alloc (.cells #[v2] t2)) ∧ ¬ w.heap.size = g ∧ ¬ w.heap.size + 1 = g := by
  have hlt := blk_lt h
  have e1 : ((w.alloc (.cells #[v1] t1)).alloc (.cells #[v2] t2)).heap[w.heap.size]? = some (.cells #[v1] t1 (0, 0)) := blk_alloc (blk_new _ _) _
  have e2 : ((w.alloc (.cells #[v1] t1)).alloc (.cells #[v2] t2)).heap[w.heap.size + 1]? = some (.cells #[v2] t2 (0, 0)) := by
    have := blk_new (w.alloc (.cells #[v1] t1)) (.cells #[v2] t2)
    simpa using this
  exact ⟨(h.alloc _).alloc _, blk_at_cells e1 rfl, blk_at_cells e2 rfl, ((Mod.refl _ _).alloc _).alloc _, by omega, by omega⟩

set_option maxRecDepth 100000 in
set_option maxHeartbeats 1000000 in
theorem take_over (h : Mt w g a b c d) (hn : 0 ≤ n) (hb : 0 ≤ b ∧ b ≤ a ∧ a ≤ 9223372036854775807) (hc : 0 ≤ c ∧ c ≤ 9223372036854775807) (ho : a - b < n ∨ 9223372036854775807 - c < n) :
    Calls Try.prog 10 #[Ptr g, .int .i64 n] w (Told w g 5 a b c d) := by
  obtain ⟨hM, hc1, hc2, hMod, hne1, hne2⟩ := boxes w g a b c d h 24 3 (Ptr g) (.int .i64 n)
  have HO := Aside0.mk (over_yes _ _ _ _ _ _ _ _ _ hM hc2 hc1 hb hc ho)
  have HM := Aside0.mk hM
  have HMod := Aside0.mk hMod
  clear h hM hMod ho hb hc
  have hnb : decide (n < 0) = false := decide_eq_false (by omega)
  go_enter Try.func10, Try.ntmps10
  go_wp2_with (go_at_call 32; go_in)
  refine HO.out.mono ?_
  rintro e w1 ⟨rfl, ⟨⟨nq, rfl⟩⟩⟩
  go_wp2_with fail
  go_ret
  exact ⟨rfl, HM.out, HMod.out.drewN _⟩

set_option maxRecDepth 100000 in
set_option maxHeartbeats 1000000 in
theorem take_ok (h : Mt w g a b c d) (hn : 0 ≤ n) (hb : 0 ≤ b ∧ b ≤ a ∧ a ≤ 9223372036854775807) (hc : 0 ≤ c ∧ c ≤ 9223372036854775807) (h1 : n ≤ a - b) (h2 : n ≤ 9223372036854775807 - c) :
    Calls Try.prog 10 #[Ptr g, .int .i64 n] w (Told w g 0 a (b + n) (c + n) (if d < b + n then b + n else d)) := by
  obtain ⟨hM, hc1, hc2, hMod, hne1, hne2⟩ := boxes w g a b c d h 24 3 (Ptr g) (.int .i64 n)
  have HO := Aside0.mk (over_no _ _ _ _ _ _ _ _ _ hM hc2 hc1 hb hc h1 h2)
  have HD := Aside0.mk (fun nq => do_calls (World.drewN ((w.alloc (.cells #[Ptr g] 24)).alloc (.cells #[.int .i64 n] 3)) nq) _ _ _ _ _ _ _ _ hM hc2 hc1 hne2 hne1 hn hb hc h1 h2)
  have HM := Aside0.mk hM
  have HMod := Aside0.mk hMod
  clear h hM hMod hb hc h1 h2
  have hnb : decide (n < 0) = false := decide_eq_false (by omega)
  obtain ⟨d', hd'⟩ : ∃ d', d' = if d < b + n then b + n else d := ⟨_, rfl⟩
  rw [← hd'] at HD ⊢
  clear hd'
  go_enter Try.func10, Try.ntmps10
  go_wp2_with (go_at_call 32; go_in)
  refine HO.out.mono ?_
  rintro e w1 ⟨rfl, ⟨⟨nq, rfl⟩⟩⟩
  go_wp2_with fail
  refine (HD.out nq).mono ?_
  rintro e w1 ⟨rfl, hm, hmod⟩
  have HM1 := Aside0.mk hm
  have HMod1 := Aside0.mk ((HMod.out.drewN nq).same hmod)
  clear hm hmod HMod HM
  go_wp2_with fail
  go_ret
  exact ⟨rfl, HM1.out, HMod1.out⟩

set_option maxRecDepth 100000 in
set_option maxHeartbeats 1000000 in
theorem give_neg (h : Mt w g a b c d) (hn : n < 0) : Calls Try.prog 14 #[Ptr g, .int .i64 n] w (Told w g 1 a b c d) := by
  have H := Aside0.mk h
  clear h
  have hnb : decide (n < 0) = true := decide_eq_true hn
  go_enter Try.func14, Try.ntmps14
  go_wp2
  go_ret
  exact ⟨rfl, (H.out.alloc _).alloc _, ((Mod.refl _ _).alloc _).alloc _⟩

set_option maxRecDepth 100000 in
set_option maxHeartbeats 1000000 in
theorem gover (bN bM : Nat) (x : Int) (h : Mt w g a b c d) (cN : w.cell? ⟨bN, 0, none⟩ = some (.int .i64 n)) (cM : w.cell? ⟨bM, 0, none⟩ = some (Ptr g)) (hx : (b < n ∧ x = 1) ∨ (n ≤ b ∧ x = 0)) :
    Calls Try.prog 34 #[.pointer (some ⟨bN, 0, none⟩), .pointer (some ⟨bM, 0, none⟩)] w fun e w' => e = .returned (.int .i64 x) ∧ Drawn0 w w' := by
  have hc1 := h.c1
  clear h
  rcases hx with ⟨h1, rfl⟩ | ⟨h1, rfl⟩
  · have hb1 : decide (b < n) = true := decide_eq_true h1
    go_enter Try.func34, Try.ntmps34
    go_wp2
    go_quiet (fail)
    go_wp2
    go_ret
    exact ⟨rfl, ⟨⟨_, rfl⟩⟩⟩
  · have hb1 : decide (b < n) = false := decide_eq_false (by omega)
    go_enter Try.func34, Try.ntmps34
    go_wp2
    go_quiet (fail)
    go_wp2
    go_ret
    exact ⟨rfl, ⟨⟨_, rfl⟩⟩⟩

set_option maxRecDepth 100000 in
set_option maxHeartbeats 1000000 in
theorem gdo (bN bM : Nat) (h : Mt w g a b c d) (cN : w.cell? ⟨bN, 0, none⟩ = some (.int .i64 n)) (cM : w.cell? ⟨bM, 0, none⟩ = some (Ptr g)) (_hN : ¬ bN = g) (_hM : ¬ bM = g) (hn : 0 ≤ n) (hb : n ≤ b ∧ b ≤ 9223372036854775807) :
    Calls Try.prog 35 #[.pointer (some ⟨bM, 0, none⟩), .pointer (some ⟨bN, 0, none⟩)] w fun e w' => e = .returned (.tuple #[]) ∧ Mt w' g a (b - n) c d ∧ Mod (· = g) w w' := by
  have hc1 := h.c1
  have hf := h.f
  have H := Aside0.mk h
  clear h
  have hs1 : IntKind.i64.wrap (b - n) = b - n := by rw [IntKind.wrap_i64]; omega
  go_enter Try.func35, Try.ntmps35
  go_wp2
  go_region
  go_end0
  refine ⟨rfl, H.out.set1 _, ?_⟩
  refine Mod.drew ?_
  refine Mod.setCell ?_ _ _ (.inl rfl)
  exact Mod.refl _ _

set_option maxRecDepth 100000 in
set_option maxHeartbeats 1000000 in
theorem give_over (h : Mt w g a b c d) (hn : 0 ≤ n) (ho : b < n) :
    Calls Try.prog 14 #[Ptr g, .int .i64 n] w (Told w g 1 a b c d) := by
  obtain ⟨hM, hc1, hc2, hMod, hne1, hne2⟩ := boxes w g a b c d h 24 3 (Ptr g) (.int .i64 n)
  have HO := Aside0.mk (gover _ _ _ _ _ _ _ _ _ 1 hM hc2 hc1 (.inl ⟨ho, rfl⟩))
  have HM := Aside0.mk hM
  have HMod := Aside0.mk hMod
  clear h hM hMod ho
  have hnb : decide (n < 0) = false := decide_eq_false (by omega)
  go_enter Try.func14, Try.ntmps14
  go_wp2_with (go_at_call 32; go_in)
  refine HO.out.mono ?_
  rintro e w1 ⟨rfl, ⟨⟨nq, rfl⟩⟩⟩
  go_wp2_with fail
  go_ret
  exact ⟨rfl, HM.out, HMod.out.drewN _⟩

set_option maxRecDepth 100000 in
set_option maxHeartbeats 1000000 in
theorem give_ok (h : Mt w g a b c d) (hn : 0 ≤ n) (ho : n ≤ b) (hb : b ≤ 9223372036854775807) :
    Calls Try.prog 14 #[Ptr g, .int .i64 n] w (Told w g 0 a (b - n) c d) := by
  obtain ⟨hM, hc1, hc2, hMod, hne1, hne2⟩ := boxes w g a b c d h 24 3 (Ptr g) (.int .i64 n)
  have HO := Aside0.mk (gover _ _ _ _ _ _ _ _ _ 0 hM hc2 hc1 (.inr ⟨ho, rfl⟩))
  have HD := Aside0.mk (fun nq => gdo (World.drewN ((w.alloc (.cells #[Ptr g] 24)).alloc (.cells #[.int .i64 n] 3)) nq) _ _ _ _ _ _ _ _ hM hc2 hc1 hne2 hne1 hn ⟨ho, hb⟩)
  have HM := Aside0.mk hM
  have HMod := Aside0.mk hMod
  clear h hM hMod ho hb
  have hnb : decide (n < 0) = false := decide_eq_false (by omega)
  go_enter Try.func14, Try.ntmps14
  go_wp2_with (go_at_call 32; go_in)
  refine HO.out.mono ?_
  rintro e w1 ⟨rfl, ⟨⟨nq, rfl⟩⟩⟩
  go_wp2_with fail
  refine (HD.out nq).mono ?_
  rintro e w1 ⟨rfl, hm, hmod⟩
  have HM1 := Aside0.mk hm
  have HMod1 := Aside0.mk ((HMod.out.drewN nq).same hmod)
  clear hm hmod HMod HM
  go_wp2_with fail
  go_ret
  exact ⟨rfl, HM1.out, HMod1.out⟩

theorem clear_calls (h : Mt w g a b c d) :
    Calls Try.prog 17 #[Ptr g] w fun e w' => e = .returned (.tuple #[]) ∧ Mt w' g a b 0 b ∧ Mod (· = g) w w' := by
  have hc1 := h.c1
  have hc2 := h.c2
  have hc3 := h.c3
  have hf := h.f
  have H := Aside0.mk h
  clear h
  go_enter Try.func17, Try.ntmps17
  go_wp2
  go_end0
  refine ⟨rfl, (H.out.set2 _).set3 _, ?_⟩
  refine Mod.setCell ?_ _ _ (.inl rfl)
  refine Mod.setCell ?_ _ _ (.inl rfl)
  exact Mod.refl _ _

abbrev Nil : Value := .pointer none
theorem clear_nil : Calls Try.prog 17 #[Nil] w fun e w' => e = .returned (.tuple #[]) ∧ w = w' := by
  go_enter Try.func17, Try.ntmps17
  go_wp2
  go_end0
  exact ⟨rfl, rfl⟩
theorem used_nil : Calls Try.prog 11 #[Nil] w fun e w' => e = .returned (.int .i64 0) ∧ w = w' := by
  go_enter Try.func11, Try.ntmps11
  go_wp2
  go_ret
  exact ⟨rfl, rfl⟩
theorem taken_nil : Calls Try.prog 12 #[Nil] w fun e w' => e = .returned (.int .i64 0) ∧ w = w' := by
  go_enter Try.func12, Try.ntmps12
  go_wp2
  go_ret
  exact ⟨rfl, rfl⟩
theorem top_nil : Calls Try.prog 13 #[Nil] w fun e w' => e = .returned (.int .i64 0) ∧ w = w' := by
  go_enter Try.func13, Try.ntmps13
  go_wp2
  go_ret
  exact ⟨rfl, rfl⟩
theorem most_nil : Calls Try.prog 20 #[Nil] w fun e w' => e = .returned (.int .i64 0) ∧ w = w' := by
  go_enter Try.func20, Try.ntmps20
  go_wp2
  go_ret
  exact ⟨rfl, rfl⟩
theorem take_nil : Calls Try.prog 10 #[Nil, .int .i64 n] w fun e w' => e = .returned (.int .i64 1) ∧ Below w.heap.size w w' := by
  go_enter Try.func10, Try.ntmps10
  go_wp2
  go_ret
  exact ⟨rfl, below_alloc ((Below.refl _ _).alloc (Nat.le_refl _) _) _⟩
theorem give_nil : Calls Try.prog 14 #[Nil, .int .i64 n] w fun e w' => e = .returned (.int .i64 1) ∧ Below w.heap.size w w' := by
  go_enter Try.func14, Try.ntmps14
  go_wp2
  go_ret
  exact ⟨rfl, below_alloc ((Below.refl _ _).alloc (Nat.le_refl _) _) _⟩

set_option maxRecDepth 100000 in
set_option maxHeartbeats 1000000 in
theorem alive : Calls Try.prog 8 #[] w fun e w' => e = .returned (.bool true) ∧ Below w.heap.size w w' := by
  go_enter Try.func8, Try.ntmps8
  go_wp2_with fail
  refine (new_calls w 10 10 rfl).mono ?_
  rintro e w1 ⟨rfl, hm, hb⟩
  obtain ⟨g, hg⟩ : ∃ g, g = w.heap.size := ⟨_, rfl⟩
  rw [← hg] at hm ⊢
  have hge : ∀ i, i = g → w.heap.size ≤ i := by omega
  have HM1 := Aside0.mk hm
  have HB1 := Aside0.mk hb
  have HG := Aside0.mk hge
  clear hm hb hg hge
  go_wp2_with fail
  refine (take_ok _ _ 7 _ _ _ _ HM1.out (by decide) (by decide) (by decide) (by decide) (by decide)).mono ?_
  rintro e w2 ⟨rfl, hm, hmod⟩
  have HM2 := Aside0.mk (show Mt w2 g 10 7 7 7 from hm)
  have HB2 := Aside0.mk (hmod.below HB1.out HB1.out.size HG.out)
  clear hm hmod HM1 HB1
  go_wp2_with fail
  refine (take_over _ _ 4 _ _ _ _ HM2.out (by decide) (by decide) (by decide) (by decide)).mono ?_
  rintro e w3 ⟨rfl, hm, hmod⟩
  have HM3 := Aside0.mk hm
  have HB3 := Aside0.mk (hmod.below HB2.out HB2.out.size HG.out)
  clear hm hmod HM2 HB2
  go_wp2_with fail
  refine (give_ok _ _ 2 _ _ _ _ HM3.out (by decide) (by decide) (by decide)).mono ?_
  rintro e w4 ⟨rfl, hm, hmod⟩
  have HM4 := Aside0.mk (show Mt w4 g 10 5 7 7 from hm)
  have HB4 := Aside0.mk (hmod.below HB3.out HB3.out.size HG.out)
  clear hm hmod HM3 HB3
  go_wp2_with fail
  refine (take_ok _ _ 4 _ _ _ _ HM4.out (by decide) (by decide) (by decide) (by decide) (by decide)).mono ?_
  rintro e w5 ⟨rfl, hm, hmod⟩
  have HM5 := Aside0.mk (show Mt w5 g 10 9 11 9 from hm)
  have HB5 := Aside0.mk (hmod.below HB4.out HB4.out.size HG.out)
  clear hm hmod HM4 HB4
  go_wp2_with fail
  refine (used_calls _ _ _ _ _ _ HM5.out).mono ?_
  rintro e w6 ⟨rfl, rfl⟩
  go_wp2_with fail
  refine (taken_calls _ _ _ _ _ _ HM5.out).mono ?_
  rintro e w6 ⟨rfl, rfl⟩
  go_wp2_with fail
  refine (top_calls _ _ _ _ _ _ HM5.out).mono ?_
  rintro e w6 ⟨rfl, rfl⟩
  go_wp2_with fail
  go_ret
  exact ⟨rfl, HB5.out⟩
end
end Go.Proofs.Ytkdkdjhdoplicaa.Met
