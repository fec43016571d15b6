/- meter: the meter's methods, each by a contract. -/
import Derived.Test.YtpceignbgnekmaaProg
import Derived.Test.YtpceignbgnekmaaMod
import Derived.Test.YtpceignbgnekmaaWMore
namespace Go.Proofs.Ytpceignbgnekmaa.Met
open Go.RowKit Go.Proofs.YtpceignbgnekmaaW.PrintWords Go.Proofs.Ytpceignbgnekmaa.Md

/-- block g is a meter -/
def Mt (w : World) (g : Nat) (most used taken top : Int) : Prop := w.heap[g]? = some (.cells #[.int .i64 most, .int .i64 used, .int .i64 taken, .int .i64 top] 76 (0, 0))
abbrev Ptr (g : Nat) : Value := .pointer (some ⟨g, 0, none⟩)

section
variable {w : World} {g : Nat} {a b c d : Int}
theorem Mt.c0 (h : Mt w g a b c d) : w.cell? ⟨g, 0, none⟩ = some (.int .i64 a) := blk_at_cells h rfl
theorem Mt.c1 (h : Mt w g a b c d) : w.cell? ⟨g, 1, none⟩ = some (.int .i64 b) := blk_at_cells h rfl
theorem Mt.c2 (h : Mt w g a b c d) : w.cell? ⟨g, 2, none⟩ = some (.int .i64 c) := blk_at_cells h rfl
theorem Mt.c3 (h : Mt w g a b c d) : w.cell? ⟨g, 3, none⟩ = some (.int .i64 d) := blk_at_cells h rfl
theorem Mt.f (h : Mt w g a b c d) (i : Nat) : w.frozen? ⟨g, i, none⟩ = false := blk_frozen h i
theorem Mt.set1 (h : Mt w g a b c d) (x : Int) : Mt (w.setCell ⟨g, 1, none⟩ (.int .i64 x)) g a x c d := blk_put h 1 _ rfl
theorem Mt.set2 (h : Mt w g a b c d) (x : Int) : Mt (w.setCell ⟨g, 2, none⟩ (.int .i64 x)) g a b x d := blk_put h 2 _ rfl
theorem Mt.set3 (h : Mt w g a b c d) (x : Int) : Mt (w.setCell ⟨g, 3, none⟩ (.int .i64 x)) g a b c x := blk_put h 3 _ rfl
theorem Mt.alloc (h : Mt w g a b c d) (o : Obj) : Mt (w.alloc o) g a b c d := blk_alloc h o
end

theorem new_calls (w : World) (n m : Int) (hm : m = if n < 0 then 0 else n) :
    Calls Try.prog 36 #[.int .i64 n] w fun e w' => e = .returned (Ptr w.heap.size) ∧ Mt w' w.heap.size m 0 0 0 ∧ Below w.heap.size w w' := by
  have HM := Aside0.mk hm
  clear hm
  by_cases hn : n < 0
  · go_enter Try.func36, Try.ntmps36
    go_wp2
    go_ret
    refine ⟨rfl, ?_, (Below.refl _ _).alloc (Nat.le_refl _) _⟩
    rw [HM.out, if_pos hn]
    exact blk_new _ _
  · go_enter Try.func36, Try.ntmps36
    go_wp2
    go_ret
    refine ⟨rfl, ?_, (Below.refl _ _).alloc (Nat.le_refl _) _⟩
    rw [HM.out, if_neg (by omega)]
    exact blk_new _ _

theorem used_calls (w : World) (g : Nat) (a b c d : Int) (h : Mt w g a b c d) :
    Calls Try.prog 37 #[Ptr g] w fun e w' => e = .returned (.int .i64 b) ∧ w = w' := by
  have c1 := h.c1
  clear h
  go_enter Try.func37, Try.ntmps37
  go_wp2
  go_ret
  exact ⟨rfl, rfl⟩
theorem taken_calls (w : World) (g : Nat) (a b c d : Int) (h : Mt w g a b c d) :
    Calls Try.prog 38 #[Ptr g] w fun e w' => e = .returned (.int .i64 c) ∧ w = w' := by
  have c1 := h.c2
  clear h
  go_enter Try.func38, Try.ntmps38
  go_wp2
  go_ret
  exact ⟨rfl, rfl⟩

/-- a call told an error's number, the meter turned -/
def Told (w : World) (g : Nat) (x a b c d : Int) (e : Ending) (w' : World) : Prop := e = .returned (.int .i64 x) ∧ Mt w' g a b c d ∧ Mod (· = g) w w'

set_option maxRecDepth 100000 in
set_option maxHeartbeats 1000000 in
theorem take_neg (w : World) (g : Nat) (n a b c d : Int) (h : Mt w g a b c d) (hn : n < 0) :
    Calls Try.prog 47 #[Ptr g, .int .i64 n] w (Told w g 1 a b c d) := by
  have H := Aside0.mk h
  clear h
  have hnb : decide (n < 0) = true := decide_eq_true hn
  go_enter Try.func47, Try.ntmps47
  go_wp2
  go_ret
  exact ⟨rfl, (H.out.alloc _).alloc _, ((Mod.refl _ _).alloc _).alloc _⟩

section
variable (w : World) (bN bM : Nat) (g : Nat) (n a b c d : Int)

set_option maxRecDepth 100000 in
set_option maxHeartbeats 1000000 in
/-- Take's first closure: more than is left? -/
theorem over_yes (h : Mt w g a b c d) (cN : w.cell? ⟨bN, 0, none⟩ = some (.int .i64 n)) (cM : w.cell? ⟨bM, 0, none⟩ = some (Ptr g)) (hb : 0 ≤ b ∧ b ≤ a ∧ a ≤ 9223372036854775807) (hc : 0 ≤ c ∧ c ≤ 9223372036854775807) (ho : a - b < n ∨ 9223372036854775807 - c < n) :
    Calls Try.prog 55 #[.pointer (some ⟨bN, 0, none⟩), .pointer (some ⟨bM, 0, none⟩)] w fun e w' => e = .returned (.int .i64 5) ∧ Drawn0 w w' := by
  have hc0 := h.c0
  have hc1 := h.c1
  have hc2 := h.c2
  clear h
  have hab : IntKind.i64.wrap (a - b) = a - b := by rw [IntKind.wrap_i64]; omega
  by_cases h1 : a - b < n
  · have hb1 : decide (a - b < n) = true := decide_eq_true h1
    go_enter Try.func55, Try.ntmps55
    go_wp2
    go_quiet (fail)
    go_wp2
    go_ret
    exact ⟨rfl, ⟨⟨_, rfl⟩⟩⟩
  · have hb1 : decide (a - b < n) = false := decide_eq_false h1
    have hmc : IntKind.i64.wrap (9223372036854775807 - c) = 9223372036854775807 - c := by rw [IntKind.wrap_i64]; omega
    have hb2 : decide (9223372036854775807 - c < n) = true := decide_eq_true (by omega)
    go_enter Try.func55, Try.ntmps55
    go_wp2
    go_quiet (fail)
    go_wp2
    go_ret
    exact ⟨rfl, ⟨⟨_, rfl⟩⟩⟩

set_option maxRecDepth 100000 in
set_option maxHeartbeats 1000000 in
theorem over_no (h : Mt w g a b c d) (cN : w.cell? ⟨bN, 0, none⟩ = some (.int .i64 n)) (cM : w.cell? ⟨bM, 0, none⟩ = some (Ptr g)) (hb : 0 ≤ b ∧ b ≤ a ∧ a ≤ 9223372036854775807) (hc : 0 ≤ c ∧ c ≤ 9223372036854775807) (h1 : n ≤ a - b) (h2 : n ≤ 9223372036854775807 - c) :
    Calls Try.prog 55 #[.pointer (some ⟨bN, 0, none⟩), .pointer (some ⟨bM, 0, none⟩)] w fun e w' => e = .returned (.int .i64 0) ∧ Drawn0 w w' := by
  have hc0 := h.c0
  have hc1 := h.c1
  have hc2 := h.c2
  clear h
  have hab : IntKind.i64.wrap (a - b) = a - b := by rw [IntKind.wrap_i64]; omega
  have hb1 : decide (a - b < n) = false := decide_eq_false (by omega)
  have hmc : IntKind.i64.wrap (9223372036854775807 - c) = 9223372036854775807 - c := by rw [IntKind.wrap_i64]; omega
  have hb2 : decide (9223372036854775807 - c < n) = false := decide_eq_false (by omega)
  go_enter Try.func55, Try.ntmps55
  go_wp2
  go_quiet (fail)
  go_wp2
  go_ret
  exact ⟨rfl, ⟨⟨_, rfl⟩⟩⟩

set_option maxRecDepth 100000 in
set_option maxHeartbeats 1000000 in
/-- Take's second closure: the counts turn -/
theorem do_calls (h : Mt w g a b c d) (cN : w.cell? ⟨bN, 0, none⟩ = some (.int .i64 n)) (cM : w.cell? ⟨bM, 0, none⟩ = some (Ptr g)) (_hN : ¬ bN = g) (_hM : ¬ bM = g) (hn : 0 ≤ n) (hb : 0 ≤ b ∧ b ≤ a ∧ a ≤ 9223372036854775807) (hc : 0 ≤ c ∧ c ≤ 9223372036854775807) (h1 : n ≤ a - b) (h2 : n ≤ 9223372036854775807 - c) :
    Calls Try.prog 57 #[.pointer (some ⟨bM, 0, none⟩), .pointer (some ⟨bN, 0, none⟩)] w fun e w' => e = .returned (.tuple #[]) ∧ Mt w' g a (b + n) (c + n) (if d < b + n then b + n else d) ∧ Mod (· = g) w w' := by
  have hc0 := h.c0
  have hc1 := h.c1
  have hc2 := h.c2
  have hc3 := h.c3
  have hf := h.f
  have H := Aside0.mk h
  clear h
  have hs1 : IntKind.i64.wrap (b + n) = b + n := by rw [IntKind.wrap_i64]; omega
  have hs2 : IntKind.i64.wrap (c + n) = c + n := by rw [IntKind.wrap_i64]; omega
  go_enter Try.func57, Try.ntmps57
  go_wp2
  go_region
  go_wp2
  go_region
  go_wp2
  go_region
  go_end0
  refine ⟨rfl, ((H.out.set1 _).set2 _).set3 _, ?_⟩
  refine Mod.drew (Mod.drew (Mod.drew ?_))
  refine Mod.setCell ?_ _ _ (.inl rfl)
  refine Mod.setCell ?_ _ _ (.inl rfl)
  refine Mod.setCell ?_ _ _ (.inl rfl)
  exact Mod.refl _ _
end

section
variable (w : World) (g : Nat) (n a b c d : Int)

theorem boxes (h : Mt w g a b c d) (t1 t2 : TypeId) (v1 v2 : Value) :
    Mt ((w.alloc (.cells #[v1] t1)).alloc (.cells #[v2] t2)) g a b c d ∧ ((w.alloc (.cells #[v1] t1)).alloc (.cells #[v2] t2)).cell? ⟨w.heap.size, 0, none⟩ = some v1 ∧
    ((w.alloc (.cells #[v1] t1)).alloc (.cells #[v2] t2)).cell? ⟨w.heap.size + 1, 0, none⟩ = some v2 ∧ Mod (· = g) w ((w.alloc (.cells #[v1] t1)).alloc (.cells #[v2] t2)) ∧ ¬ w.heap.size = g ∧ ¬ w.heap.size + 1 = g := by
  have hlt := blk_lt h
  have e1 : ((w.alloc (.cells #[v1] t1)).alloc (.cells #[v2] t2)).heap[w.heap.size]? = some (.cells #[v1] t1 (0, 0)) := blk_alloc (blk_new _ _) _
  have e2 : ((w.alloc (.cells #[v1] t1)).alloc (.cells #[v2] t2)).heap[w.heap.size + 1]? = some (.cells #[v2] t2 (0, 0)) := by
    have := blk_new (w.alloc (.cells #[v1] t1)) (.cells #[v2] t2)
    simpa using this
  exact ⟨(h.alloc _).alloc _, blk_at_cells e1 rfl, blk_at_cells e2 rfl, ((Mod.refl _ _).alloc _).alloc _, by omega, by omega⟩

set_option maxRecDepth 100000 in
set_option maxHeartbeats 1000000 in
theorem take_over (h : Mt w g a b c d) (hn : 0 ≤ n) (hb : 0 ≤ b ∧ b ≤ a ∧ a ≤ 9223372036854775807) (hc : 0 ≤ c ∧ c ≤ 9223372036854775807) (ho : a - b < n ∨ 9223372036854775807 - c < n) :
    Calls Try.prog 47 #[Ptr g, .int .i64 n] w (Told w g 5 a b c d) := by
  obtain ⟨hM, hc1, hc2, hMod, hne1, hne2⟩ := boxes w g a b c d h 51 3 (Ptr g) (.int .i64 n)
  have HO := Aside0.mk (over_yes _ _ _ _ _ _ _ _ _ hM hc2 hc1 hb hc ho)
  have HM := Aside0.mk hM
  have HMod := Aside0.mk hMod
  clear h hM hMod ho hb hc
  have hnb : decide (n < 0) = false := decide_eq_false (by omega)
  go_enter Try.func47, Try.ntmps47
  go_wp2_with (go_at_call 56; go_in)
  refine HO.out.mono ?_
  rintro e w1 ⟨rfl, ⟨⟨nq, rfl⟩⟩⟩
  go_wp2_with fail
  go_ret
  exact ⟨rfl, HM.out, HMod.out.drewN _⟩

set_option maxRecDepth 100000 in
set_option maxHeartbeats 1000000 in
theorem take_ok (h : Mt w g a b c d) (hn : 0 ≤ n) (hb : 0 ≤ b ∧ b ≤ a ∧ a ≤ 9223372036854775807) (hc : 0 ≤ c ∧ c ≤ 9223372036854775807) (h1 : n ≤ a - b) (h2 : n ≤ 9223372036854775807 - c) :
    Calls Try.prog 47 #[Ptr g, .int .i64 n] w (Told w g 0 a (b + n) (c + n) (if d < b + n then b + n else d)) := by
  obtain ⟨hM, hc1, hc2, hMod, hne1, hne2⟩ := boxes w g a b c d h 51 3 (Ptr g) (.int .i64 n)
  have HO := Aside0.mk (over_no _ _ _ _ _ _ _ _ _ hM hc2 hc1 hb hc h1 h2)
  have HD := Aside0.mk (fun nq => do_calls (World.drewN ((w.alloc (.cells #[Ptr g] 51)).alloc (.cells #[.int .i64 n] 3)) nq) _ _ _ _ _ _ _ _ hM hc2 hc1 hne2 hne1 hn hb hc h1 h2)
  have HM := Aside0.mk hM
  have HMod := Aside0.mk hMod
  clear h hM hMod hb hc h1 h2
  have hnb : decide (n < 0) = false := decide_eq_false (by omega)
  obtain ⟨d', hd'⟩ : ∃ d', d' = if d < b + n then b + n else d := ⟨_, rfl⟩
  rw [← hd'] at HD ⊢
  clear hd'
  go_enter Try.func47, Try.ntmps47
  go_wp2_with (go_at_call 56; go_in)
  refine HO.out.mono ?_
  rintro e w1 ⟨rfl, ⟨⟨nq, rfl⟩⟩⟩
  go_wp2_with fail
  refine (HD.out nq).mono ?_
  rintro e w1 ⟨rfl, hm, hmod⟩
  have HM1 := Aside0.mk hm
  have HMod1 := Aside0.mk ((HMod.out.drewN nq).same hmod)
  clear hm hmod HMod HM
  go_wp2_with fail
  go_ret
  exact ⟨rfl, HM1.out, HMod1.out⟩
end
end Go.Proofs.Ytpceignbgnekmaa.Met
