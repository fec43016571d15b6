/- Lines that the kit's print wrote for the functions of the item laws, in one namespace. -/
import Derived.Test.YtkdkdjhdoplicaaItH0
import Derived.Test.YtkdkdjhdoplicaaItH4
namespace Go.Proofs.Ytkdkdjhdoplicaa.It
open Go.RowKit Go.Proofs.YtkdkdjhdoplicaaW.PrintWords Go.Proofs.YtkdkdjhdoplicaaW.PrintLast Go.Proofs.YtkdkdjhdoplicaaW.PrintMore
attribute [local go_sem] max2_int min2_int max_two min_two max_three min_three max_four min_four   -- for this text's walks alone
set_option linter.unusedVariables false
set_option linter.unusedSimpArgs false

/-! ### hatchwayref08_parse: function 47 -/
mutual
def hatchwayref08_parse.j0 : Nat → ByteArray → Int → Int → Bool → Option (ByteArray × Bool × (List (S43)) × Int)
  | 0, _, _, _, _ => none
  | k + 1, x0, x1, x2, x19 => if x19 = true then (some ((⟨#[]⟩ : ByteArray), false, ([] : List (S43)), (-1))) else (if 0 ≤ x1 then (if x1 < (x0.size : Int) then (if (bt x0 x1) = 45 then (some ((⟨#[]⟩ : ByteArray), false, ([] : List (S43)), wrap64 (x1 + 1))) else (if (bt x0 x1) = 40 then (hatchwayref08_parse.l1 k x0 (wrap64 (x1 + 1)) x2 (⟨#[]⟩ : ByteArray) true ([] : List (S43))) else (hatchwayref08_parse.l0 k x0 x1 ([] : List Int)))) else (none)) else (none))
def hatchwayref08_parse.l1 : Nat → ByteArray → Int → Int → ByteArray → Bool → List (S43) → Option (ByteArray × Bool × (List (S43)) × Int)
  | 0, _, _, _, _, _, _ => none
  | k + 1, x0, x1, x2, x185000, x185001, x185002 => if x1 < (x0.size : Int) then (if 0 ≤ x1 then (hatchwayref08_parse.j4 k x0 x1 x2 ((bt x0 x1) != 41) x185000 x185001 x185002) else (none)) else (hatchwayref08_parse.j4 k x0 x1 x2 false x185000 x185001 x185002)
def hatchwayref08_parse.j4 : Nat → ByteArray → Int → Int → Bool → ByteArray → Bool → List (S43) → Option (ByteArray × Bool × (List (S43)) × Int)
  | 0, _, _, _, _, _, _, _ => none
  | k + 1, x0, x1, x2, x89, x185000, x185001, x185002 => if x89 = true then (if (x185002.length : Int) > 0 then (if 0 ≤ x1 then (if x1 < (x0.size : Int) then (if (bt x0 x1) = 32 then ((hatchwayref08_parse.f k x0 (wrap64 (x1 + 1)) (wrap64 (x2 + 1))).bind fun bt185 => (if bt185.2.2.2 < 0 then (some ((⟨#[]⟩ : ByteArray), false, ([] : List (S43)), (-1))) else (if x185002.length < 2932031007402 then (hatchwayref08_parse.l1 k x0 bt185.2.2.2 x2 x185000 x185001 (x185002 ++ [(⟨bt185.1, bt185.2.1, bt185.2.2.1⟩ : S43)])) else (none)))) else (some ((⟨#[]⟩ : ByteArray), false, ([] : List (S43)), (-1)))) else (none)) else (none)) else ((hatchwayref08_parse.f k x0 x1 (wrap64 (x2 + 1))).bind fun bt195 => (if bt195.2.2.2 < 0 then (some ((⟨#[]⟩ : ByteArray), false, ([] : List (S43)), (-1))) else (if x185002.length < 2932031007402 then (hatchwayref08_parse.l1 k x0 bt195.2.2.2 x2 x185000 x185001 (x185002 ++ [(⟨bt195.1, bt195.2.1, bt195.2.2.1⟩ : S43)])) else (none))))) else (if x1 ≥ (x0.size : Int) then (some ((⟨#[]⟩ : ByteArray), false, ([] : List (S43)), (-1))) else (some (x185000, x185001, x185002, wrap64 (x1 + 1))))
def hatchwayref08_parse.l0 : Nat → ByteArray → Int → List Int → Option (ByteArray × Bool × (List (S43)) × Int)
  | 0, _, _, _ => none
  | k + 1, x0, x1, x8 => if (wrap64 (x1 + 1)) < (x0.size : Int) then (if 0 ≤ x1 then (if x1 < (x0.size : Int) then ((hatchwayref08_digit.f k (bt x0 x1)).bind fun t177 => (if t177 ≥ 0 then (if 0 ≤ (wrap64 (x1 + 1)) then ((hatchwayref08_digit.f k (bt x0 (wrap64 (x1 + 1)))).bind fun t178 => (hatchwayref08_parse.j2 k x0 x1 x8 (decide (t178 ≥ 0)))) else (none)) else (hatchwayref08_parse.j2 k x0 x1 x8 false))) else (none)) else (none)) else (hatchwayref08_parse.j2 k x0 x1 x8 false)
def hatchwayref08_parse.j2 : Nat → ByteArray → Int → List Int → Bool → Option (ByteArray × Bool × (List (S43)) × Int)
  | 0, _, _, _, _ => none
  | k + 1, x0, x1, x8, x51 => if x51 = true then (if 0 ≤ x1 then (if x1 < (x0.size : Int) then ((hatchwayref08_digit.f k (bt x0 x1)).bind fun t179 => (if 0 ≤ (wrap64 (x1 + 1)) then (if (wrap64 (x1 + 1)) < (x0.size : Int) then ((hatchwayref08_digit.f k (bt x0 (wrap64 (x1 + 1)))).bind fun t180 => (if x8.length < 140737488355328 then (hatchwayref08_parse.l0 k x0 (wrap64 (x1 + 2)) (x8 ++ [(wrap64 ((wrap64 (16 * t179)) + t180)) % 256])) else (none))) else (none)) else (none))) else (none)) else (none)) else (if (x8.length : Int) = 0 then (some ((⟨#[]⟩ : ByteArray), false, ([] : List (S43)), (-1))) else (some (strOfNums x8, false, ([] : List (S43)), x1)))
def hatchwayref08_parse.f : Nat → ByteArray → Int → Int → Option (ByteArray × Bool × (List (S43)) × Int)
  | 0, _, _, _ => none
  | k + 1, a0, a1, a2 => if a1 ≥ (a0.size : Int) then (hatchwayref08_parse.j0 k a0 a1 a2 true) else (hatchwayref08_parse.j0 k a0 a1 a2 (decide (a2 > 16)))
end
theorem hatchwayref08_parse.mono_l : ∀ k, (∀ y0 y1 y2, LeO (hatchwayref08_parse.f k y0 y1 y2) (hatchwayref08_parse.f (k + 1) y0 y1 y2)) ∧ (∀ y0 y1 y2 y3, LeO (hatchwayref08_parse.j0 k y0 y1 y2 y3) (hatchwayref08_parse.j0 (k + 1) y0 y1 y2 y3)) ∧ (∀ y0 y1 y2 y3 y4 y5, LeO (hatchwayref08_parse.l1 k y0 y1 y2 y3 y4 y5) (hatchwayref08_parse.l1 (k + 1) y0 y1 y2 y3 y4 y5)) ∧ (∀ y0 y1 y2 y3 y4 y5 y6, LeO (hatchwayref08_parse.j4 k y0 y1 y2 y3 y4 y5 y6) (hatchwayref08_parse.j4 (k + 1) y0 y1 y2 y3 y4 y5 y6)) ∧ (∀ y0 y1 y2, LeO (hatchwayref08_parse.l0 k y0 y1 y2) (hatchwayref08_parse.l0 (k + 1) y0 y1 y2)) ∧ (∀ y0 y1 y2 y3, LeO (hatchwayref08_parse.j2 k y0 y1 y2 y3) (hatchwayref08_parse.j2 (k + 1) y0 y1 y2 y3))
  | 0 => ⟨fun _ _ _ r h => by simp [hatchwayref08_parse.f] at h, fun _ _ _ _ r h => by simp [hatchwayref08_parse.j0] at h, fun _ _ _ _ _ _ r h => by simp [hatchwayref08_parse.l1] at h, fun _ _ _ _ _ _ _ r h => by simp [hatchwayref08_parse.j4] at h, fun _ _ _ r h => by simp [hatchwayref08_parse.l0] at h, fun _ _ _ _ r h => by simp [hatchwayref08_parse.j2] at h⟩
  | k + 1 => by
    obtain ⟨ih0, ih1, ih2, ih3, ih4, ih5⟩ := hatchwayref08_parse.mono_l k
    refine ⟨?_, ?_, ?_, ?_, ?_, ?_⟩
    · intro y0 y1 y2
      unfold hatchwayref08_parse.f
      repeat' first
      | (with_reducible exact ih0 _ _ _)
      | (with_reducible exact ih1 _ _ _ _)
      | (with_reducible exact ih2 _ _ _ _ _ _)
      | (with_reducible exact ih3 _ _ _ _ _ _ _)
      | (with_reducible exact ih4 _ _ _)
      | (with_reducible exact ih5 _ _ _ _)
      | (with_reducible exact hatchwayref08_digit.mono _ _)
      | (with_reducible exact LeO.refl _)
      | (with_reducible exact LeO.none _)
      | (with_reducible refine LeO.ite ?_ ?_)
      | (with_reducible refine LeO.bind ?_ (fun _ => ?_))
      | exact ih0 _ _ _
      | exact ih1 _ _ _ _
      | exact ih2 _ _ _ _ _ _
      | exact ih3 _ _ _ _ _ _ _
      | exact ih4 _ _ _
      | exact ih5 _ _ _ _
      | exact hatchwayref08_digit.mono _ _
      | exact LeO.none _
      | refine LeO.ite ?_ ?_
      | refine LeO.bind ?_ (fun _ => ?_)
    · intro y0 y1 y2 y3
      unfold hatchwayref08_parse.j0
      repeat' first
      | (with_reducible exact ih0 _ _ _)
      | (with_reducible exact ih1 _ _ _ _)
      | (with_reducible exact ih2 _ _ _ _ _ _)
      | (with_reducible exact ih3 _ _ _ _ _ _ _)
      | (with_reducible exact ih4 _ _ _)
      | (with_reducible exact ih5 _ _ _ _)
      | (with_reducible exact hatchwayref08_digit.mono _ _)
      | (with_reducible exact LeO.refl _)
      | (with_reducible exact LeO.none _)
      | (with_reducible refine LeO.ite ?_ ?_)
      | (with_reducible refine LeO.bind ?_ (fun _ => ?_))
      | exact ih0 _ _ _
      | exact ih1 _ _ _ _
      | exact ih2 _ _ _ _ _ _
      | exact ih3 _ _ _ _ _ _ _
      | exact ih4 _ _ _
      | exact ih5 _ _ _ _
      | exact hatchwayref08_digit.mono _ _
      | exact LeO.none _
      | refine LeO.ite ?_ ?_
      | refine LeO.bind ?_ (fun _ => ?_)
    · intro y0 y1 y2 y3 y4 y5
      unfold hatchwayref08_parse.l1
      repeat' first
      | (with_reducible exact ih0 _ _ _)
      | (with_reducible exact ih1 _ _ _ _)
      | (with_reducible exact ih2 _ _ _ _ _ _)
      | (with_reducible exact ih3 _ _ _ _ _ _ _)
      | (with_reducible exact ih4 _ _ _)
      | (with_reducible exact ih5 _ _ _ _)
      | (with_reducible exact hatchwayref08_digit.mono _ _)
      | (with_reducible exact LeO.refl _)
      | (with_reducible exact LeO.none _)
      | (with_reducible refine LeO.ite ?_ ?_)
      | (with_reducible refine LeO.bind ?_ (fun _ => ?_))
      | exact ih0 _ _ _
      | exact ih1 _ _ _ _
      | exact ih2 _ _ _ _ _ _
      | exact ih3 _ _ _ _ _ _ _
      | exact ih4 _ _ _
      | exact ih5 _ _ _ _
      | exact hatchwayref08_digit.mono _ _
      | exact LeO.none _
      | refine LeO.ite ?_ ?_
      | refine LeO.bind ?_ (fun _ => ?_)
    · intro y0 y1 y2 y3 y4 y5 y6
      unfold hatchwayref08_parse.j4
      repeat' first
      | (with_reducible exact ih0 _ _ _)
      | (with_reducible exact ih1 _ _ _ _)
      | (with_reducible exact ih2 _ _ _ _ _ _)
      | (with_reducible exact ih3 _ _ _ _ _ _ _)
      | (with_reducible exact ih4 _ _ _)
      | (with_reducible exact ih5 _ _ _ _)
      | (with_reducible exact hatchwayref08_digit.mono _ _)
      | (with_reducible exact LeO.refl _)
      | (with_reducible exact LeO.none _)
      | (with_reducible refine LeO.ite ?_ ?_)
      | (with_reducible refine LeO.bind ?_ (fun _ => ?_))
      | exact ih0 _ _ _
      | exact ih1 _ _ _ _
      | exact ih2 _ _ _ _ _ _
      | exact ih3 _ _ _ _ _ _ _
      | exact ih4 _ _ _
      | exact ih5 _ _ _ _
      | exact hatchwayref08_digit.mono _ _
      | exact LeO.none _
      | refine LeO.ite ?_ ?_
      | refine LeO.bind ?_ (fun _ => ?_)
    · intro y0 y1 y2
      unfold hatchwayref08_parse.l0
      repeat' first
      | (with_reducible exact ih0 _ _ _)
      | (with_reducible exact ih1 _ _ _ _)
      | (with_reducible exact ih2 _ _ _ _ _ _)
      | (with_reducible exact ih3 _ _ _ _ _ _ _)
      | (with_reducible exact ih4 _ _ _)
      | (with_reducible exact ih5 _ _ _ _)
      | (with_reducible exact hatchwayref08_digit.mono _ _)
      | (with_reducible exact LeO.refl _)
      | (with_reducible exact LeO.none _)
      | (with_reducible refine LeO.ite ?_ ?_)
      | (with_reducible refine LeO.bind ?_ (fun _ => ?_))
      | exact ih0 _ _ _
      | exact ih1 _ _ _ _
      | exact ih2 _ _ _ _ _ _
      | exact ih3 _ _ _ _ _ _ _
      | exact ih4 _ _ _
      | exact ih5 _ _ _ _
      | exact hatchwayref08_digit.mono _ _
      | exact LeO.none _
      | refine LeO.ite ?_ ?_
      | refine LeO.bind ?_ (fun _ => ?_)
    · intro y0 y1 y2 y3
      unfold hatchwayref08_parse.j2
      repeat' first
      | (with_reducible exact ih0 _ _ _)
      | (with_reducible exact ih1 _ _ _ _)
      | (with_reducible exact ih2 _ _ _ _ _ _)
      | (with_reducible exact ih3 _ _ _ _ _ _ _)
      | (with_reducible exact ih4 _ _ _)
      | (with_reducible exact ih5 _ _ _ _)
      | (with_reducible exact hatchwayref08_digit.mono _ _)
      | (with_reducible exact LeO.refl _)
      | (with_reducible exact LeO.none _)
      | (with_reducible refine LeO.ite ?_ ?_)
      | (with_reducible refine LeO.bind ?_ (fun _ => ?_))
      | exact ih0 _ _ _
      | exact ih1 _ _ _ _
      | exact ih2 _ _ _ _ _ _
      | exact ih3 _ _ _ _ _ _ _
      | exact ih4 _ _ _
      | exact ih5 _ _ _ _
      | exact hatchwayref08_digit.mono _ _
      | exact LeO.none _
      | refine LeO.ite ?_ ?_
      | refine LeO.bind ?_ (fun _ => ?_)
theorem hatchwayref08_parse.mono : ∀ a0 a1 a2 k, LeO (hatchwayref08_parse.f k a0 a1 a2) (hatchwayref08_parse.f (k + 1) a0 a1 a2) := by
  intro a0 a1 a2 k
  obtain ⟨ih0, ih1, ih2, ih3, ih4, ih5⟩ := hatchwayref08_parse.mono_l k
  exact ih0 a0 a1 a2
def hatchwayref08_parse.T8 : Bool × List (List Nat × List Nat) := (true, [([], []), ([], []), ([], []), ([1, 2], [1, 2]), ([3], [3]), ([4], [4]), ([], []), ([], []), ([7], [7]), ([6, 8], [6, 8]), ([9, 4], [9]), ([5, 10], [5, 10]), ([11], [11]), ([12], [12]), ([0, 13, 10], [0, 13]), ([14, 14, 0, 1, 2, 3, 4, 5, 6, 7, 8, 9, 10, 11, 12, 13, 14], [0, 14])])
def hatchwayref08_parse.B8 : List Nat := [0, 0, 0, 6, 14, 30, 0, 0, 128, 448, 990, 2046, 4094, 8190, 16383, 32767]
theorem hatchwayref08_parse.tab8 : rtab .any (opsOf Try.f47 8) = hatchwayref08_parse.T8 := by kernel_rfl
theorem hatchwayref08_parse.bits8 : waitsOk hatchwayref08_parse.T8.2 hatchwayref08_parse.B8 = true := by kernel_rfl
set_option maxHeartbeats 8000000 in
set_option maxRecDepth 100000 in
theorem hatchwayref08_parse.calls (k : Nat) : ∀ (a0 : ByteArray) (a1 : Int) (a2 : Int) (r1 : ByteArray) (r2 : Bool) (r3 : List (S43)) (r4 : Int) (w : World) (h : hatchwayref08_parse.f k a0 a1 a2 = some (r1, r2, r3, r4)),
    Calls Try.prog 47 #[.string a0, .int .i64 a1, .int .i64 a2] w fun e w' => ∃ v2_ : Value, e = .returned (.tuple #[.agg #[.string r1, .bool r2, v2_], .int .i64 r4]) ∧ Kd.R k43 43 w' w.heap.size (fun _ => True) v2_ r3 ∧ Below w.heap.size w w' := by
  induction k using Nat.strongRecOn with
  | _ k ih =>
  intro a0 a1 a2 r1 r2 r3 r4 w h
  cases k with
  | zero => exact absurd h (by simp [hatchwayref08_parse.f])
  | succ k =>
  simp only [hatchwayref08_parse.f] at h
  have hu43 := Try.underlying43
  have HB := Aside0.mk (Below.refl w.heap.size w)
  have H : (if a1 ≥ (a0.size : Int) then (hatchwayref08_parse.j0 k a0 a1 a2 true) else (hatchwayref08_parse.j0 k a0 a1 a2 (decide (a2 > 16)))) = some (r1, r2, r3, r4) := h
  clear h
  have HC4 := Aside0.mk H
  clear H
  go_enter Try.func47, Try.ntmps47
  go_upto_region 1 with (first | ((with_reducible refine gate_dst (N := 6) rfl ?_); refine box_event ?hg (N := 6) ?hd (cs := #[.string (⟨#[]⟩ : ByteArray), .bool false, .slice none 0 0]) (t := 43) ?hr ?_; (case hd => rfl); (case hg => rfl); (case hr => first | (go_simp; done) | (go_simp; rfl)); intro gb176 hg w5 hbox hb; have n0_ := Aside0.mk (below_step (by repeat (first | (with_reducible first | exact HB.out | apply below_alloc | apply pw_below_drewN | apply below_drew1) | exact HB.out)) hb); have n1_ := Aside0.mk (hbox); have n2_ := Aside0.mk ((by rw [hg]; exact (below_size (by repeat (first | (with_reducible first | exact HB.out | apply below_alloc | apply pw_below_drewN | apply below_drew1) | exact HB.out))) : w.heap.size ≤ gb176)); have n3_ := Aside0.mk ((by rw [hg]; exact (below_size (by repeat (first | (with_reducible first | exact HB.out | apply below_alloc | apply pw_below_drewN | apply below_drew1) | exact HB.out))) : w.heap.size ≤ gb176)); clear HB; have HB := n0_; have BK176 := n1_; have GW176 := n2_; have GE176 := n3_; clear n0_ n1_ n2_ n3_; clear hb hbox hg))
  (try simp only [Act.put, List.setIfInBounds_toArray, List.set_cons_zero, List.set_cons_succ])
  go_cut [19] (fun v19 wc => ∃ (kq : Nat) (x19_3 : Bool), v19 = .bool x19_3 ∧ Aside0 (hatchwayref08_parse.j0 kq a0 a1 a2 x19_3 = some (r1, r2, r3, r4)) ∧ Aside0 (kq ≤ k) ∧ Aside0 (wc.heap[gb176]? = some (.cells #[.string (⟨#[]⟩ : ByteArray), .bool false, (.slice none 0 0)] 43 (0, 0))) ∧ Aside0 (Below w.heap.size w wc))
  case first =>
    have H := HC4.out
    clear HC4
    by_cases c6 : a1 ≥ (a0.size : Int)
    · rw [if_pos c6] at H
      have c6b0 : decide ((a0.size : Int) ≤ a1) = true := decide_eq_true c6
      clear c6
      (first | rw [c6b0] | (simp only [i64_w, i32_w]; rw [c6b0]) | skip)
      have H' := Aside0.mk H
      clear H
      go_wp2
      go_meet
      case rel => exact ⟨_, (true), (by first | rfl | (simp; done) | (simp [*]; done)), H', ⟨by first | omega | exact Nat.le_refl _⟩, ⟨by (with_reducible repeat (first | refine blk_drewN ?_ _ | refine blk_drew ?_ | refine blk_alloc ?_ _)); exact BK176.out⟩, ⟨by repeat (first | (with_reducible first | exact HB.out | apply below_alloc | apply pw_below_drewN | apply below_drew1 | refine below_set ?_ GE176.out) | exact HB.out)⟩⟩
    · rw [if_neg c6] at H
      have c6b0 : decide ((a0.size : Int) ≤ a1) = false := decide_eq_false c6
      clear c6
      (first | rw [c6b0] | (simp only [i64_w, i32_w]; rw [c6b0]) | skip)
      have H' := Aside0.mk H
      clear H
      go_wp2
      go_meet
      case rel => exact ⟨_, (decide (a2 > 16)), (by first | rfl | (simp; done) | (simp [*]; done)), H', ⟨by first | omega | exact Nat.le_refl _⟩, ⟨by (with_reducible repeat (first | refine blk_drewN ?_ _ | refine blk_drew ?_ | refine blk_alloc ?_ _)); exact BK176.out⟩, ⟨by repeat (first | (with_reducible first | exact HB.out | apply below_alloc | apply pw_below_drewN | apply below_drew1 | refine below_set ?_ GE176.out) | exact HB.out)⟩⟩
  case rest =>
    clear HC4
    try clear p2
    try clear c4
    try clear c6
    try clear c6b0
    obtain ⟨kq, x19_3, rfl, HA, HJ3, BK176, HB⟩ := hcut
    cases kq with
    | zero => exact absurd HA.out (by simp [hatchwayref08_parse.j0])
    | succ kj3 =>
      have H := HA.out
      clear HA
      simp only [hatchwayref08_parse.j0] at H
      by_cases c7 : x19_3 = true
      · subst c7
        have H1 : (some ((⟨#[]⟩ : ByteArray), false, ([] : List (S43)), (-1))) = some (r1, r2, r3, r4) := by rw [if_pos rfl] at H; exact H
        clear H
        have H := H1
        clear H1
        simp only [Option.some.injEq, Prod.mk.injEq] at H
        obtain ⟨rfl, rfl, rfl, rfl⟩ := H
        have hcz8_0 : wc.cell? ⟨gb176, 0, none⟩ = some (.string (⟨#[]⟩ : ByteArray)) := (blk_cell BK176.out 0).trans rfl
        have hcz8_1 : wc.cell? ⟨gb176, 1, none⟩ = some (.bool false) := (blk_cell BK176.out 1).trans rfl
        have hcz8_2 : wc.cell? ⟨gb176, 2, none⟩ = some (.slice none 0 0) := (blk_cell BK176.out 2).trans rfl
        have hfz8_0 := blk_frozen BK176.out 0
        have hfz8_1 := blk_frozen BK176.out 1
        have hfz8_2 := blk_frozen BK176.out 2
        go_wp2
        refine bodyPost_ret (results_ct rfl _ _ gb176 43 #[.string (⟨#[]⟩ : ByteArray), .bool false, .slice none 0 0] (0, 0) _ rfl (by (with_reducible repeat (first | refine blk_drewN ?_ _ | refine blk_drew ?_ | refine blk_alloc ?_ _)); refine blk_put (cs := #[.string (⟨#[]⟩ : ByteArray), .bool false, .slice none 0 0]) ?_ 2 _ rfl; (with_reducible repeat (first | refine blk_drewN ?_ _ | refine blk_drew ?_ | refine blk_alloc ?_ _)); refine blk_put (cs := #[.string (⟨#[]⟩ : ByteArray), .bool false, .slice none 0 0]) ?_ 1 _ rfl; (with_reducible repeat (first | refine blk_drewN ?_ _ | refine blk_drew ?_ | refine blk_alloc ?_ _)); refine blk_put (cs := #[.string (⟨#[]⟩ : ByteArray), .bool false, .slice none 0 0]) ?_ 0 _ rfl; (with_reducible repeat (first | refine blk_drewN ?_ _ | refine blk_drew ?_ | refine blk_alloc ?_ _)); exact BK176.out) Try.underlying43 rfl (by kernel_rfl)) rfl ?_
        exact ⟨_, by first | rfl | (simp [errW_none, errW_some] <;> rfl) | (simp [*, errW_none, errW_some] <;> rfl), by first | exact Kd.R_nil _ _ _ _ _ | exact Kd.N_nil _ _ _ _ _ | exact Kd.V_nil _ _ _ _ _ | exact Kd.Q_nil _ _ _ _ _ | exact Kd.S_nil _ _ _ _ _, by repeat (first | (with_reducible first | exact HB.out | apply below_alloc | apply pw_below_drewN | apply below_drew1 | refine below_set ?_ GE176.out) | exact HB.out)⟩
      · replace c7 := Bool.eq_false_iff.mpr c7
        subst c7
        have H1 : (if 0 ≤ a1 then (if a1 < (a0.size : Int) then (if (bt a0 a1) = 45 then (some ((⟨#[]⟩ : ByteArray), false, ([] : List (S43)), wrap64 (a1 + 1))) else (if (bt a0 a1) = 40 then (hatchwayref08_parse.l1 kj3 a0 (wrap64 (a1 + 1)) a2 (⟨#[]⟩ : ByteArray) true ([] : List (S43))) else (hatchwayref08_parse.l0 kj3 a0 a1 ([] : List Int)))) else (none)) else (none)) = some (r1, r2, r3, r4) := by rw [if_neg (show ¬ (false = true) by decide)] at H; exact H
        clear H
        have H := H1
        clear H1
        by_cases c9 : 0 ≤ a1
        · rw [if_pos c9] at H
          have c9b0 : decide (0 ≤ a1) = true := decide_eq_true c9
          clear c9
          by_cases c10 : a1 < (a0.size : Int)
          · rw [if_pos c10] at H
            have c10b0 : decide (a1 < (a0.size : Int)) = true := decide_eq_true c10
            clear c10
            by_cases c12 : (bt a0 a1) = 45
            · rw [if_pos c12] at H
              have c12b0 : ((bt a0 a1) == 45) = true := beq_iff_eq.mpr c12
              have c12b1 : ((bt a0 a1) != 45) = false := bne_eq_false_iff_eq.mpr c12
              clear c12
              simp only [Option.some.injEq, Prod.mk.injEq] at H
              obtain ⟨rfl, rfl, rfl, rfl⟩ := H
              have p11 : 0 ≤ (a1 : Int) := of_decide_eq_true (by first | (with_reducible assumption) | assumption)
              have q11 : a1 < (a0.size : Int) := of_decide_eq_true (by first | (with_reducible assumption) | assumption)
              have hx11 := bt_at a0 a1
              replace p11 := eq_true p11
              replace q11 := eq_true q11
              have hcz13_0 : wc.cell? ⟨gb176, 0, none⟩ = some (.string (⟨#[]⟩ : ByteArray)) := (blk_cell BK176.out 0).trans rfl
              have hcz13_1 : wc.cell? ⟨gb176, 1, none⟩ = some (.bool false) := (blk_cell BK176.out 1).trans rfl
              have hcz13_2 : wc.cell? ⟨gb176, 2, none⟩ = some (.slice none 0 0) := (blk_cell BK176.out 2).trans rfl
              have hfz13_0 := blk_frozen BK176.out 0
              have hfz13_1 := blk_frozen BK176.out 1
              have hfz13_2 := blk_frozen BK176.out 2
              go_wp2
              refine bodyPost_ret (results_ct rfl _ _ gb176 43 #[.string (⟨#[]⟩ : ByteArray), .bool false, .slice none 0 0] (0, 0) _ rfl (by (with_reducible repeat (first | refine blk_drewN ?_ _ | refine blk_drew ?_ | refine blk_alloc ?_ _)); refine blk_put (cs := #[.string (⟨#[]⟩ : ByteArray), .bool false, .slice none 0 0]) ?_ 2 _ rfl; (with_reducible repeat (first | refine blk_drewN ?_ _ | refine blk_drew ?_ | refine blk_alloc ?_ _)); refine blk_put (cs := #[.string (⟨#[]⟩ : ByteArray), .bool false, .slice none 0 0]) ?_ 1 _ rfl; (with_reducible repeat (first | refine blk_drewN ?_ _ | refine blk_drew ?_ | refine blk_alloc ?_ _)); refine blk_put (cs := #[.string (⟨#[]⟩ : ByteArray), .bool false, .slice none 0 0]) ?_ 0 _ rfl; (with_reducible repeat (first | refine blk_drewN ?_ _ | refine blk_drew ?_ | refine blk_alloc ?_ _)); exact BK176.out) Try.underlying43 rfl (by kernel_rfl)) rfl ?_
              exact ⟨_, by first | rfl | (simp [errW_none, errW_some] <;> rfl) | (simp [*, errW_none, errW_some] <;> rfl), by first | exact Kd.R_nil _ _ _ _ _ | exact Kd.N_nil _ _ _ _ _ | exact Kd.V_nil _ _ _ _ _ | exact Kd.Q_nil _ _ _ _ _ | exact Kd.S_nil _ _ _ _ _, by repeat (first | (with_reducible first | exact HB.out | apply below_alloc | apply pw_below_drewN | apply below_drew1 | refine below_set ?_ GE176.out) | exact HB.out)⟩
            · rw [if_neg c12] at H
              have c12b0 : ((bt a0 a1) == 45) = false := beq_eq_false_iff_ne.mpr c12
              have c12b1 : ((bt a0 a1) != 45) = true := bne_iff_ne.mpr c12
              by_cases c15 : (bt a0 a1) = 40
              · rw [if_pos c15] at H
                have c15b0 : ((bt a0 a1) == 40) = true := beq_iff_eq.mpr c15
                have c15b1 : ((bt a0 a1) != 40) = false := bne_eq_false_iff_eq.mpr c15
                clear c15
                have H' := Aside0.mk H
                clear H
                have p11 : 0 ≤ (a1 : Int) := of_decide_eq_true (by first | (with_reducible assumption) | assumption)
                have q11 : a1 < (a0.size : Int) := of_decide_eq_true (by first | (with_reducible assumption) | assumption)
                have hx11 := bt_at a0 a1
                replace p11 := eq_true p11
                replace q11 := eq_true q11
                have p14 : 0 ≤ (a1 : Int) := of_decide_eq_true (by first | (with_reducible assumption) | assumption)
                have q14 : a1 < (a0.size : Int) := of_decide_eq_true (by first | (with_reducible assumption) | assumption)
                have hx14 := bt_at a0 a1
                replace p14 := eq_true p14
                replace q14 := eq_true q14
                go_wp2_with (first | ((with_reducible refine gate_dst (N := 9) rfl ?_); refine box_event ?hg (N := 9) ?hd (cs := #[.string (⟨#[]⟩ : ByteArray), .bool false, .slice none 0 0]) (t := 43) ?hr ?_; (case hd => rfl); (case hg => rfl); (case hr => first | (go_simp; done) | (go_simp; rfl)); intro gb184 hg w16 hbox hb; have n0_ := Aside0.mk (blk_below (g := gb176) (o := .cells #[.string (⟨#[]⟩ : ByteArray), .bool false, .slice none 0 0] 43 (0, 0)) (by (with_reducible repeat (first | refine blk_drewN ?_ _ | refine blk_drew ?_ | refine blk_alloc ?_ _)); exact BK176.out) hb); have n1_ := Aside0.mk (below_step (by repeat (first | (with_reducible first | exact HB.out | apply below_alloc | apply pw_below_drewN | apply below_drew1 | refine below_set ?_ GE176.out) | exact HB.out)) hb); have n2_ := Aside0.mk (hbox); have n3_ := Aside0.mk ((by rw [hg]; exact (below_size (by repeat (first | (with_reducible first | exact HB.out | apply below_alloc | apply pw_below_drewN | apply below_drew1 | refine below_set ?_ GE176.out) | exact HB.out))) : w.heap.size ≤ gb184)); have n4_ := Aside0.mk ((by rw [hg]; exact (below_size (by repeat (first | (with_reducible first | exact HB.out | apply below_alloc | apply pw_below_drewN | apply below_drew1 | refine below_set ?_ GE176.out) | exact HB.out))) : w.heap.size ≤ gb184)); have n5_ := Aside0.mk ((by rw [hg]; exact Nat.ne_of_lt (blk_lt (g := gb176) (o := .cells #[.string (⟨#[]⟩ : ByteArray), .bool false, .slice none 0 0] 43 (0, 0)) (by (with_reducible repeat (first | refine blk_drewN ?_ _ | refine blk_drew ?_ | refine blk_alloc ?_ _)); exact BK176.out)) : gb176 ≠ gb184)); have n6_ := Aside0.mk ((by rw [hg]; exact Nat.ne_of_gt (blk_lt (g := gb176) (o := .cells #[.string (⟨#[]⟩ : ByteArray), .bool false, .slice none 0 0] 43 (0, 0)) (by (with_reducible repeat (first | refine blk_drewN ?_ _ | refine blk_drew ?_ | refine blk_alloc ?_ _)); exact BK176.out)) : gb184 ≠ gb176)); clear BK176; clear HB; have BK176 := n0_; have HB := n1_; have BK184 := n2_; have GW184 := n3_; have GE184 := n4_; have NB176_184 := n5_; have NB184_176 := n6_; clear n0_ n1_ n2_ n3_ n4_ n5_ n6_; clear hb hbox hg; have hnb17 := NB184_176.out; have hnc17 := NB176_184.out; have hcz18_0 : w16.cell? ⟨gb184, 0, none⟩ = some (.string (⟨#[]⟩ : ByteArray)) := (blk_cell BK184.out 0).trans rfl; have hcz18_1 : w16.cell? ⟨gb184, 1, none⟩ = some (.bool false) := (blk_cell BK184.out 1).trans rfl; have hcz18_2 : w16.cell? ⟨gb184, 2, none⟩ = some (.slice none 0 0) := (blk_cell BK184.out 2).trans rfl; have hfz18_0 := blk_frozen BK184.out 0; have hfz18_1 := blk_frozen BK184.out 1; have hfz18_2 := blk_frozen BK184.out 2))
                go_loopg [1] kj3 (fun kq v1 w' => ∃ (x1_2 : Int) (x177000_2 : ByteArray) (x177001_2 : Bool) (x185002_2 : List (S43)) (u185002 : Value), v1 = .int .i64 x1_2 ∧ Aside0 (hatchwayref08_parse.l1 kq a0 x1_2 a2 (⟨#[]⟩ : ByteArray) true x185002_2 = some (r1, r2, r3, r4)) ∧ Aside0 (kq ≤ kj3) ∧ Aside0 (Kd.R k43 43 w' w.heap.size (fun k_ => k_ ≠ gb176 ∧ k_ ≠ gb184) u185002 x185002_2) ∧ Aside0 (w'.heap[gb176]? = some (.cells #[.string x177000_2, .bool x177001_2, (.slice none 0 0)] 43 (0, 0))) ∧ Aside0 (w'.heap[gb184]? = some (.cells #[.string (⟨#[]⟩ : ByteArray), .bool true, u185002] 43 (0, 0))) ∧ Aside0 (Below w.heap.size w w'))
                case atStart => exact ⟨(wrap64 (a1 + 1)), ((⟨#[]⟩ : ByteArray)), (false), (([] : List (S43))), (.slice none 0 0), (by first | rfl | (simp; done) | (simp [*]; done)), H', ⟨Nat.le_refl _⟩, ⟨by first | exact Kd.R_nil _ _ _ _ _ | exact Kd.N_nil _ _ _ _ _ | exact Kd.V_nil _ _ _ _ _ | exact Kd.Q_nil _ _ _ _ _ | exact Kd.S_nil _ _ _ _ _⟩, ⟨by (with_reducible repeat (first | refine blk_drewN ?_ _ | refine blk_drew ?_ | refine blk_alloc ?_ _)); refine blk_far ?_ NB176_184.out _; (with_reducible repeat (first | refine blk_drewN ?_ _ | refine blk_drew ?_ | refine blk_alloc ?_ _)); refine blk_far ?_ NB176_184.out _; (with_reducible repeat (first | refine blk_drewN ?_ _ | refine blk_drew ?_ | refine blk_alloc ?_ _)); refine blk_far ?_ NB176_184.out _; (with_reducible repeat (first | refine blk_drewN ?_ _ | refine blk_drew ?_ | refine blk_alloc ?_ _)); exact BK176.out⟩, ⟨by (with_reducible repeat (first | refine blk_drewN ?_ _ | refine blk_drew ?_ | refine blk_alloc ?_ _)); refine blk_put (cs := #[.string (⟨#[]⟩ : ByteArray), .bool true, .slice none 0 0]) ?_ 2 _ rfl; (with_reducible repeat (first | refine blk_drewN ?_ _ | refine blk_drew ?_ | refine blk_alloc ?_ _)); refine blk_put (cs := #[.string (⟨#[]⟩ : ByteArray), .bool false, .slice none 0 0]) ?_ 1 _ rfl; (with_reducible repeat (first | refine blk_drewN ?_ _ | refine blk_drew ?_ | refine blk_alloc ?_ _)); refine blk_put (cs := #[.string (⟨#[]⟩ : ByteArray), .bool false, .slice none 0 0]) ?_ 0 _ rfl; (with_reducible repeat (first | refine blk_drewN ?_ _ | refine blk_drew ?_ | refine blk_alloc ?_ _)); exact BK184.out⟩, ⟨by repeat (first | (with_reducible first | exact HB.out | apply below_alloc | apply pw_below_drewN | apply below_drew1 | refine below_set ?_ GE176.out | refine below_set ?_ GE184.out) | exact HB.out)⟩⟩
                case round =>
                  clear H'
                  try clear c1
                  try clear p1
                  try clear q1
                  try clear hx1
                  try clear p2
                  try clear c4
                  try clear c6
                  try clear c6b0
                  try clear p6
                  try clear c7
                  try clear c9
                  try clear c9b0
                  try clear c10
                  try clear c10b0
                  try clear p11
                  try clear q11
                  try clear hx11
                  try clear c12
                  try clear c12b0
                  try clear c12b1
                  try clear p14
                  try clear q14
                  try clear hx14
                  try clear c15
                  try clear c15b0
                  try clear c15b1
                  try clear c17
                  try clear hcz13_0
                  try clear hcz13_1
                  try clear hcz13_2
                  try clear hcz18_0
                  try clear hcz18_1
                  try clear hcz18_2
                  try clear hcz8_0
                  try clear hcz8_1
                  try clear hcz8_2
                  try clear hfz13_0
                  try clear hfz13_1
                  try clear hfz13_2
                  try clear hfz18_0
                  try clear hfz18_1
                  try clear hfz18_2
                  try clear hfz8_0
                  try clear hfz8_1
                  try clear hfz8_2
                  try clear p11
                  try clear p14
                  try clear p2
                  try clear q11
                  try clear q14
                  obtain ⟨x1_2, x177000_2, x177001_2, x185002_2, u185002, rfl, HA, HK2, HO_185002, BK176, BK184, HB⟩ := hrel
                  cases gk with
                  | zero => exact absurd HA.out (by simp [hatchwayref08_parse.l1])
                  | succ k2 =>
                    have H := HA.out
                    clear HA
                    simp only [hatchwayref08_parse.l1] at H
                    have HC19 := Aside0.mk H
                    clear H
                    go_upto_region 15 with (fail)
                    go_cut [89] (fun v89 wc => ∃ (kq : Nat) (x89_18 : Bool), v89 = .bool x89_18 ∧ Aside0 (hatchwayref08_parse.j4 kq a0 x1_2 a2 x89_18 (⟨#[]⟩ : ByteArray) true x185002_2 = some (r1, r2, r3, r4)) ∧ Aside0 (kq ≤ k2) ∧ Aside0 (Kd.R k43 43 wc w.heap.size (fun k_ => k_ ≠ gb176 ∧ k_ ≠ gb184) u185002 x185002_2) ∧ Aside0 (wc.heap[gb176]? = some (.cells #[.string x177000_2, .bool x177001_2, (.slice none 0 0)] 43 (0, 0))) ∧ Aside0 (wc.heap[gb184]? = some (.cells #[.string (⟨#[]⟩ : ByteArray), .bool true, u185002] 43 (0, 0))) ∧ Aside0 (Below w.heap.size w wc))
                    case first =>
                      have H := HC19.out
                      clear HC19
                      by_cases c20 : x1_2 < (a0.size : Int)
                      · rw [if_pos c20] at H
                        have c20b0 : decide (x1_2 < (a0.size : Int)) = true := decide_eq_true c20
                        clear c20
                        (first | rw [c20b0] | (simp only [i64_w, i32_w]; rw [c20b0]) | skip)
                        by_cases c21 : 0 ≤ x1_2
                        · rw [if_pos c21] at H
                          have c21b0 : decide (0 ≤ x1_2) = true := decide_eq_true c21
                          clear c21
                          have H' := Aside0.mk H
                          clear H
                          have p22 : 0 ≤ (x1_2 : Int) := of_decide_eq_true (by first | (with_reducible assumption) | assumption)
                          have q22 : x1_2 < (a0.size : Int) := of_decide_eq_true (by first | (with_reducible assumption) | assumption)
                          have hx22 := bt_at a0 x1_2
                          replace p22 := eq_true p22
                          replace q22 := eq_true q22
                          go_wp2
                          go_meet
                          case rel => exact ⟨_, (((bt a0 x1_2) != 41)), (by first | rfl | (simp; done) | (simp [*]; done)), H', ⟨by have := HJ3.out; have := HK2.out; first | omega | exact Nat.le_refl _⟩, ⟨by (with_reducible repeat (first | apply Kd.R_alloc | apply Kd.R_drewN | apply Kd.R_drew)); exact HO_185002.out⟩, ⟨by (with_reducible repeat (first | refine blk_drewN ?_ _ | refine blk_drew ?_ | refine blk_alloc ?_ _)); exact BK176.out⟩, ⟨by (with_reducible repeat (first | refine blk_drewN ?_ _ | refine blk_drew ?_ | refine blk_alloc ?_ _)); exact BK184.out⟩, ⟨by repeat (first | (with_reducible first | exact HB.out | apply below_alloc | apply pw_below_drewN | apply below_drew1 | refine below_set ?_ GE176.out | refine below_set ?_ GE184.out) | exact HB.out)⟩⟩
                        · rw [if_neg c21] at H
                          exact absurd H (by simp)
                      · rw [if_neg c20] at H
                        have c20b0 : decide (x1_2 < (a0.size : Int)) = false := decide_eq_false c20
                        clear c20
                        (first | rw [c20b0] | (simp only [i64_w, i32_w]; rw [c20b0]) | skip)
                        have H' := Aside0.mk H
                        clear H
                        go_wp2
                        go_meet
                        case rel => exact ⟨_, (false), (by first | rfl | (simp; done) | (simp [*]; done)), H', ⟨by have := HJ3.out; have := HK2.out; first | omega | exact Nat.le_refl _⟩, ⟨by (with_reducible repeat (first | apply Kd.R_alloc | apply Kd.R_drewN | apply Kd.R_drew)); exact HO_185002.out⟩, ⟨by (with_reducible repeat (first | refine blk_drewN ?_ _ | refine blk_drew ?_ | refine blk_alloc ?_ _)); exact BK176.out⟩, ⟨by (with_reducible repeat (first | refine blk_drewN ?_ _ | refine blk_drew ?_ | refine blk_alloc ?_ _)); exact BK184.out⟩, ⟨by repeat (first | (with_reducible first | exact HB.out | apply below_alloc | apply pw_below_drewN | apply below_drew1 | refine below_set ?_ GE176.out | refine below_set ?_ GE184.out) | exact HB.out)⟩⟩
                    case rest =>
                      clear HC19
                      try clear c1
                      try clear p1
                      try clear q1
                      try clear hx1
                      try clear c2
                      try clear p2
                      try clear q2
                      try clear hx2
                      try clear c4
                      try clear c6
                      try clear c6b0
                      try clear p6
                      try clear c7
                      try clear c9
                      try clear c9b0
                      try clear c10
                      try clear c10b0
                      try clear p11
                      try clear q11
                      try clear hx11
                      try clear c12
                      try clear c12b0
                      try clear c12b1
                      try clear p14
                      try clear q14
                      try clear hx14
                      try clear c15
                      try clear c15b0
                      try clear c15b1
                      try clear c17
                      try clear c20
                      try clear c20b0
                      try clear c21
                      try clear c21b0
                      try clear p22
                      try clear q22
                      try clear hx22
                      try clear hcz13_0
                      try clear hcz13_1
                      try clear hcz13_2
                      try clear hcz18_0
                      try clear hcz18_1
                      try clear hcz18_2
                      try clear hcz8_0
                      try clear hcz8_1
                      try clear hcz8_2
                      try clear hfz13_0
                      try clear hfz13_1
                      try clear hfz13_2
                      try clear hfz18_0
                      try clear hfz18_1
                      try clear hfz18_2
                      try clear hfz8_0
                      try clear hfz8_1
                      try clear hfz8_2
                      try clear p1
                      try clear p11
                      try clear p14
                      try clear p2
                      try clear p22
                      try clear p6
                      try clear q1
                      try clear q11
                      try clear q14
                      try clear q22
                      obtain ⟨kq, x89_18, rfl, HA, HJ18, HO_185002, BK176, BK184, HB⟩ := hcut
                      cases kq with
                      | zero => exact absurd HA.out (by simp [hatchwayref08_parse.j4])
                      | succ kj18 =>
                        have H := HA.out
                        clear HA
                        simp only [hatchwayref08_parse.j4] at H
                        by_cases c23 : x89_18 = true
                        · subst c23
                          have H1 : (if (x185002_2.length : Int) > 0 then (if 0 ≤ x1_2 then (if x1_2 < (a0.size : Int) then (if (bt a0 x1_2) = 32 then ((hatchwayref08_parse.f kj18 a0 (wrap64 (x1_2 + 1)) (wrap64 (a2 + 1))).bind fun bt185 => (if bt185.2.2.2 < 0 then (some ((⟨#[]⟩ : ByteArray), false, ([] : List (S43)), (-1))) else (if x185002_2.length < 2932031007402 then (hatchwayref08_parse.l1 kj18 a0 bt185.2.2.2 a2 (⟨#[]⟩ : ByteArray) true (x185002_2 ++ [(⟨bt185.1, bt185.2.1, bt185.2.2.1⟩ : S43)])) else (none)))) else (some ((⟨#[]⟩ : ByteArray), false, ([] : List (S43)), (-1)))) else (none)) else (none)) else ((hatchwayref08_parse.f kj18 a0 x1_2 (wrap64 (a2 + 1))).bind fun bt195 => (if bt195.2.2.2 < 0 then (some ((⟨#[]⟩ : ByteArray), false, ([] : List (S43)), (-1))) else (if x185002_2.length < 2932031007402 then (hatchwayref08_parse.l1 kj18 a0 bt195.2.2.2 a2 (⟨#[]⟩ : ByteArray) true (x185002_2 ++ [(⟨bt195.1, bt195.2.1, bt195.2.2.1⟩ : S43)])) else (none))))) = some (r1, r2, r3, r4) := by rw [if_pos rfl] at H; exact H
                          clear H
                          have H := H1
                          clear H1
                          by_cases c24 : (x185002_2.length : Int) > 0
                          · rw [if_pos c24] at H
                            have c24b0 : decide (0 < (x185002_2.length : Int)) = true := decide_eq_true c24
                            have c24b1 : decide (0 < x185002_2.length) = true := decide_eq_true (by omega)
                            clear c24
                            by_cases c25 : 0 ≤ x1_2
                            · rw [if_pos c25] at H
                              have c25b0 : decide (0 ≤ x1_2) = true := decide_eq_true c25
                              clear c25
                              by_cases c26 : x1_2 < (a0.size : Int)
                              · rw [if_pos c26] at H
                                have c26b0 : decide (x1_2 < (a0.size : Int)) = true := decide_eq_true c26
                                clear c26
                                by_cases c28 : (bt a0 x1_2) = 32
                                · rw [if_pos c28] at H
                                  have c28b0 : ((bt a0 x1_2) == 32) = true := beq_iff_eq.mpr c28
                                  have c28b1 : ((bt a0 x1_2) != 32) = false := bne_eq_false_iff_eq.mpr c28
                                  clear c28
                                  replace H := Option.bind_eq_some_iff.mp H
                                  obtain ⟨⟨t185, t186, t187, t190⟩, A290, H⟩ := H
                                  replace H : (if t190 < 0 then (some ((⟨#[]⟩ : ByteArray), false, ([] : List (S43)), (-1))) else (if x185002_2.length < 2932031007402 then (hatchwayref08_parse.l1 kj18 a0 t190 a2 (⟨#[]⟩ : ByteArray) true (x185002_2 ++ [(⟨t185, t186, t187⟩ : S43)])) else (none))) = some (r1, r2, r3, r4) := H
                                  have A29 := Aside0.mk A290
                                  clear A290
                                  by_cases c30 : t190 < 0
                                  · rw [if_pos c30] at H
                                    have c30b0 : decide (t190 < 0) = true := decide_eq_true c30
                                    clear c30
                                    simp only [Option.some.injEq, Prod.mk.injEq] at H
                                    obtain ⟨rfl, rfl, rfl, rfl⟩ := H
                                    have hnb31 := NB184_176.out
                                    have hnc31 := NB176_184.out
                                    have hcz32_0 : wc.cell? ⟨gb184, 0, none⟩ = some (.string (⟨#[]⟩ : ByteArray)) := (blk_cell BK184.out 0).trans rfl
                                    have hcz32_1 : wc.cell? ⟨gb184, 1, none⟩ = some (.bool true) := (blk_cell BK184.out 1).trans rfl
                                    have hcz32_2 : wc.cell? ⟨gb184, 2, none⟩ = some (u185002) := (blk_cell BK184.out 2).trans rfl
                                    have hfz32_0 := blk_frozen BK184.out 0
                                    have hfz32_1 := blk_frozen BK184.out 1
                                    have hfz32_2 := blk_frozen BK184.out 2
                                    obtain ⟨Ao33, co33, eo33⟩ := Kd.R_slice HO_185002.out
                                    subst eo33
                                    have p27 : 0 ≤ (x1_2 : Int) := of_decide_eq_true (by first | (with_reducible assumption) | assumption)
                                    have q27 : x1_2 < (a0.size : Int) := of_decide_eq_true (by first | (with_reducible assumption) | assumption)
                                    have hx27 := bt_at a0 x1_2
                                    replace p27 := eq_true p27
                                    replace q27 := eq_true q27
                                    go_wp2_with (first | ((with_reducible refine gate_callee (f := 47) rfl ?_); refine goesL_ (some 106) rfl rfl Try.func47 (by kernel_rfl) rfl #[.string a0, .int .i64 (wrap64 (x1_2 + 1)), .int .i64 (wrap64 (a2 + 1))] rfl (by (try simp only [List.map_toArray, List.map_cons, List.map_nil]); first | done | rfl | (simp only [List.length_drop, List.length_take]; rfl)) ?_; (with_reducible refine (ih kj18 (by have := HJ3.out; have := HK2.out; have := HJ18.out; omega) a0 (wrap64 (x1_2 + 1)) (wrap64 (a2 + 1)) t185 t186 t187 t190 _ A29.out).mono ?_); rintro e w34 ⟨v188, rfl, ho0, hb⟩; refine ⟨_, rfl, ?_⟩; have n0_ := Aside0.mk (Kd.R_elder' (by (with_reducible repeat (first | apply Kd.R_alloc | apply Kd.R_drewN | apply Kd.R_drew)); exact HO_185002.out) (Kd.R_base ho0) hb); have n1_ := Aside0.mk (Kd.R_lower (Kd.R_newB (Kd.R_newB (Kd.R_new' ho0 (Kd.R_lt (by (with_reducible repeat (first | apply Kd.R_alloc | apply Kd.R_drewN | apply Kd.R_drew)); exact HO_185002.out))) (g := gb176) (o := .cells #[.string x177000_2, .bool x177001_2, .slice none 0 0] 43 (0, 0)) (by (with_reducible repeat (first | refine blk_drewN ?_ _ | refine blk_drew ?_ | refine blk_alloc ?_ _)); exact BK176.out)) (g := gb184) (o := .cells #[.string (⟨#[]⟩ : ByteArray), .bool true, .slice Ao33 x185002_2.length co33] 43 (0, 0)) (by (with_reducible repeat (first | refine blk_drewN ?_ _ | refine blk_drew ?_ | refine blk_alloc ?_ _)); exact BK184.out)) (below_size (by repeat (first | (with_reducible first | exact HB.out | apply below_alloc | apply pw_below_drewN | apply below_drew1 | refine below_set ?_ GE176.out | refine below_set ?_ GE184.out) | exact HB.out)))); have n2_ := Aside0.mk (blk_below (g := gb176) (o := .cells #[.string x177000_2, .bool x177001_2, .slice none 0 0] 43 (0, 0)) (by (with_reducible repeat (first | refine blk_drewN ?_ _ | refine blk_drew ?_ | refine blk_alloc ?_ _)); exact BK176.out) hb); have n3_ := Aside0.mk (blk_below (g := gb184) (o := .cells #[.string (⟨#[]⟩ : ByteArray), .bool true, .slice Ao33 x185002_2.length co33] 43 (0, 0)) (by (with_reducible repeat (first | refine blk_drewN ?_ _ | refine blk_drew ?_ | refine blk_alloc ?_ _)); exact BK184.out) hb); have n4_ := Aside0.mk (below_step (by repeat (first | (with_reducible first | exact HB.out | apply below_alloc | apply pw_below_drewN | apply below_drew1 | refine below_set ?_ GE176.out | refine below_set ?_ GE184.out) | exact HB.out)) hb); clear HO_185002; clear BK176; clear BK184; clear HB; have HO_185002 := n0_; have HO189 := n1_; have BK176 := n2_; have BK184 := n3_; have HB := n4_; clear n0_ n1_ n2_ n3_ n4_; (try clear hb); (try clear hb2); (try clear hk); (try clear hi); (try clear ho0)) | ((with_reducible refine gate_dst (N := 10) rfl ?_); refine box_event ?hg (N := 10) ?hd (cs := #[.string (⟨#[]⟩ : ByteArray), .bool false, .slice none 0 0]) (t := 43) ?hr ?_; (case hd => rfl); (case hg => rfl); (case hr => first | (go_simp; done) | (go_simp; rfl)); intro gb191 hg w35 hbox hb; have n0_ := Aside0.mk (Kd.R_below (Kd.R_elderB (by (with_reducible repeat (first | apply Kd.R_alloc | apply Kd.R_drewN | apply Kd.R_drew)); exact HO_185002.out) gb191 (Nat.le_of_eq hg.symm)) hb); have n1_ := Aside0.mk (Kd.R_below (Kd.R_elderB (by (with_reducible repeat (first | apply Kd.R_alloc | apply Kd.R_drewN | apply Kd.R_drew)); exact HO189.out) gb191 (Nat.le_of_eq hg.symm)) hb); have n2_ := Aside0.mk (blk_below (g := gb176) (o := .cells #[.string x177000_2, .bool x177001_2, .slice none 0 0] 43 (0, 0)) (by (with_reducible repeat (first | refine blk_drewN ?_ _ | refine blk_drew ?_ | refine blk_alloc ?_ _)); exact BK176.out) hb); have n3_ := Aside0.mk (blk_below (g := gb184) (o := .cells #[.string (⟨#[]⟩ : ByteArray), .bool true, .slice Ao33 x185002_2.length co33] 43 (0, 0)) (by (with_reducible repeat (first | refine blk_drewN ?_ _ | refine blk_drew ?_ | refine blk_alloc ?_ _)); exact BK184.out) hb); have n4_ := Aside0.mk (below_step (by repeat (first | (with_reducible first | exact HB.out | apply below_alloc | apply pw_below_drewN | apply below_drew1 | refine below_set ?_ GE176.out | refine below_set ?_ GE184.out) | exact HB.out)) hb); have n5_ := Aside0.mk (hbox); have n6_ := Aside0.mk ((by rw [hg]; exact (below_size (by repeat (first | (with_reducible first | exact HB.out | apply below_alloc | apply pw_below_drewN | apply below_drew1 | refine below_set ?_ GE176.out | refine below_set ?_ GE184.out) | exact HB.out))) : w.heap.size ≤ gb191)); have n7_ := Aside0.mk ((by rw [hg]; exact (below_size (by repeat (first | (with_reducible first | exact HB.out | apply below_alloc | apply pw_below_drewN | apply below_drew1 | refine below_set ?_ GE176.out | refine below_set ?_ GE184.out) | exact HB.out))) : w.heap.size ≤ gb191)); have n8_ := Aside0.mk ((by rw [hg]; exact Nat.ne_of_lt (blk_lt (g := gb176) (o := .cells #[.string x177000_2, .bool x177001_2, .slice none 0 0] 43 (0, 0)) (by (with_reducible repeat (first | refine blk_drewN ?_ _ | refine blk_drew ?_ | refine blk_alloc ?_ _)); exact BK176.out)) : gb176 ≠ gb191)); have n9_ := Aside0.mk ((by rw [hg]; exact Nat.ne_of_gt (blk_lt (g := gb176) (o := .cells #[.string x177000_2, .bool x177001_2, .slice none 0 0] 43 (0, 0)) (by (with_reducible repeat (first | refine blk_drewN ?_ _ | refine blk_drew ?_ | refine blk_alloc ?_ _)); exact BK176.out)) : gb191 ≠ gb176)); have n10_ := Aside0.mk ((by rw [hg]; exact Nat.ne_of_lt (blk_lt (g := gb184) (o := .cells #[.string (⟨#[]⟩ : ByteArray), .bool true, .slice Ao33 x185002_2.length co33] 43 (0, 0)) (by (with_reducible repeat (first | refine blk_drewN ?_ _ | refine blk_drew ?_ | refine blk_alloc ?_ _)); exact BK184.out)) : gb184 ≠ gb191)); have n11_ := Aside0.mk ((by rw [hg]; exact Nat.ne_of_gt (blk_lt (g := gb184) (o := .cells #[.string (⟨#[]⟩ : ByteArray), .bool true, .slice Ao33 x185002_2.length co33] 43 (0, 0)) (by (with_reducible repeat (first | refine blk_drewN ?_ _ | refine blk_drew ?_ | refine blk_alloc ?_ _)); exact BK184.out)) : gb191 ≠ gb184)); clear HO_185002; clear HO189; clear BK176; clear BK184; clear HB; have HO_185002 := n0_; have HO189 := n1_; have BK176 := n2_; have BK184 := n3_; have HB := n4_; have BK191 := n5_; have GW191 := n6_; have GE191 := n7_; have NB176_191 := n8_; have NB191_176 := n9_; have NB184_191 := n10_; have NB191_184 := n11_; clear n0_ n1_ n2_ n3_ n4_ n5_ n6_ n7_ n8_ n9_ n10_ n11_; clear hb hbox hg; have hnb36 := NB191_176.out; have hnc36 := NB176_191.out; have hnb37 := NB191_184.out; have hnc37 := NB184_191.out; have hcz38_0 : w35.cell? ⟨gb191, 0, none⟩ = some (.string (⟨#[]⟩ : ByteArray)) := (blk_cell BK191.out 0).trans rfl; have hcz38_1 : w35.cell? ⟨gb191, 1, none⟩ = some (.bool false) := (blk_cell BK191.out 1).trans rfl; have hcz38_2 : w35.cell? ⟨gb191, 2, none⟩ = some (.slice none 0 0) := (blk_cell BK191.out 2).trans rfl; have hfz38_0 := blk_frozen BK191.out 0; have hfz38_1 := blk_frozen BK191.out 1; have hfz38_2 := blk_frozen BK191.out 2; obtain ⟨Ao39, co39, eo39⟩ := Kd.R_slice HO189.out; subst eo39; have hcz40_0 : w35.cell? ⟨gb176, 0, none⟩ = some (.string x177000_2) := (blk_cell BK176.out 0).trans rfl; have hcz40_1 : w35.cell? ⟨gb176, 1, none⟩ = some (.bool x177001_2) := (blk_cell BK176.out 1).trans rfl; have hcz40_2 : w35.cell? ⟨gb176, 2, none⟩ = some (.slice none 0 0) := (blk_cell BK176.out 2).trans rfl; have hfz40_0 := blk_frozen BK176.out 0; have hfz40_1 := blk_frozen BK176.out 1; have hfz40_2 := blk_frozen BK176.out 2))
                                    refine bodyPost_ret (results_ct rfl _ _ gb176 43 #[.string (⟨#[]⟩ : ByteArray), .bool false, .slice none 0 0] (0, 0) _ rfl (by (with_reducible repeat (first | refine blk_drewN ?_ _ | refine blk_drew ?_ | refine blk_alloc ?_ _)); refine blk_put (cs := #[.string (⟨#[]⟩ : ByteArray), .bool false, .slice none 0 0]) ?_ 2 _ rfl; (with_reducible repeat (first | refine blk_drewN ?_ _ | refine blk_drew ?_ | refine blk_alloc ?_ _)); refine blk_put (cs := #[.string (⟨#[]⟩ : ByteArray), .bool x177001_2, .slice none 0 0]) ?_ 1 _ rfl; (with_reducible repeat (first | refine blk_drewN ?_ _ | refine blk_drew ?_ | refine blk_alloc ?_ _)); refine blk_put (cs := #[.string x177000_2, .bool x177001_2, .slice none 0 0]) ?_ 0 _ rfl; (with_reducible repeat (first | refine blk_drewN ?_ _ | refine blk_drew ?_ | refine blk_alloc ?_ _)); refine blk_far ?_ NB176_191.out _; (with_reducible repeat (first | refine blk_drewN ?_ _ | refine blk_drew ?_ | refine blk_alloc ?_ _)); refine blk_far ?_ NB176_191.out _; (with_reducible repeat (first | refine blk_drewN ?_ _ | refine blk_drew ?_ | refine blk_alloc ?_ _)); refine blk_far ?_ NB176_191.out _; (with_reducible repeat (first | refine blk_drewN ?_ _ | refine blk_drew ?_ | refine blk_alloc ?_ _)); exact BK176.out) Try.underlying43 rfl (by kernel_rfl)) rfl ?_
                                    exact ⟨_, by first | rfl | (simp [errW_none, errW_some] <;> rfl) | (simp [*, errW_none, errW_some] <;> rfl), by first | exact Kd.R_nil _ _ _ _ _ | exact Kd.N_nil _ _ _ _ _ | exact Kd.V_nil _ _ _ _ _ | exact Kd.Q_nil _ _ _ _ _ | exact Kd.S_nil _ _ _ _ _, by repeat (first | (with_reducible first | exact HB.out | apply below_alloc | apply pw_below_drewN | apply below_drew1 | refine below_set ?_ GE176.out | refine below_set ?_ GE184.out | refine below_set ?_ GE191.out) | exact HB.out)⟩
                                  · rw [if_neg c30] at H
                                    have c30b0 : decide (t190 < 0) = false := decide_eq_false c30
                                    clear c30
                                    by_cases c41 : x185002_2.length < 2932031007402
                                    · rw [if_pos c41] at H
                                      have LMc41 := Aside0.mk c41
                                      clear c41
                                      obtain ⟨y192, hy192⟩ : ∃ y_ : List (S43), y_ = (x185002_2 ++ [(⟨t185, t186, t187⟩ : S43)]) := ⟨_, rfl⟩
                                      replace H : (hatchwayref08_parse.l1 kj18 a0 t190 a2 (⟨#[]⟩ : ByteArray) true y192) = some (r1, r2, r3, r4) := by first | (rw [hy192]; with_reducible exact H) | (have H2_ := (Option.bind_some _ _).symm.trans H; rw [hy192]; with_reducible exact H2_) | (have H2_ := (Option.bind_some _ _).symm.trans H; with_reducible exact H2_) | with_reducible exact H | (rw [hy192]; exact H) | exact H
                                      have Ny192 := Aside0.mk hy192
                                      clear hy192
                                      have H' := Aside0.mk H
                                      clear H
                                      have hnb42 := NB184_176.out
                                      have hnc42 := NB176_184.out
                                      have hcz43_0 : wc.cell? ⟨gb184, 0, none⟩ = some (.string (⟨#[]⟩ : ByteArray)) := (blk_cell BK184.out 0).trans rfl
                                      have hcz43_1 : wc.cell? ⟨gb184, 1, none⟩ = some (.bool true) := (blk_cell BK184.out 1).trans rfl
                                      have hcz43_2 : wc.cell? ⟨gb184, 2, none⟩ = some (u185002) := (blk_cell BK184.out 2).trans rfl
                                      have hfz43_0 := blk_frozen BK184.out 0
                                      have hfz43_1 := blk_frozen BK184.out 1
                                      have hfz43_2 := blk_frozen BK184.out 2
                                      obtain ⟨Ao44, co44, eo44⟩ := Kd.R_slice HO_185002.out
                                      subst eo44
                                      have p27 : 0 ≤ (x1_2 : Int) := of_decide_eq_true (by first | (with_reducible assumption) | assumption)
                                      have q27 : x1_2 < (a0.size : Int) := of_decide_eq_true (by first | (with_reducible assumption) | assumption)
                                      have hx27 := bt_at a0 x1_2
                                      replace p27 := eq_true p27
                                      replace q27 := eq_true q27
                                      go_wp2_with (first | ((with_reducible refine gate_callee (f := 47) rfl ?_); refine goesL_ (some 106) rfl rfl Try.func47 (by kernel_rfl) rfl #[.string a0, .int .i64 (wrap64 (x1_2 + 1)), .int .i64 (wrap64 (a2 + 1))] rfl (by (try simp only [List.map_toArray, List.map_cons, List.map_nil]); first | done | rfl | (simp only [List.length_drop, List.length_take]; rfl)) ?_; (with_reducible refine (ih kj18 (by have := HJ3.out; have := HK2.out; have := HJ18.out; omega) a0 (wrap64 (x1_2 + 1)) (wrap64 (a2 + 1)) t185 t186 t187 t190 _ A29.out).mono ?_); rintro e w45 ⟨v188, rfl, ho0, hb⟩; refine ⟨_, rfl, ?_⟩; have n0_ := Aside0.mk (Kd.R_elder' (by (with_reducible repeat (first | apply Kd.R_alloc | apply Kd.R_drewN | apply Kd.R_drew)); exact HO_185002.out) (Kd.R_base ho0) hb); have n1_ := Aside0.mk (Kd.R_lower (Kd.R_newB (Kd.R_newB (Kd.R_new' ho0 (Kd.R_lt (by (with_reducible repeat (first | apply Kd.R_alloc | apply Kd.R_drewN | apply Kd.R_drew)); exact HO_185002.out))) (g := gb176) (o := .cells #[.string x177000_2, .bool x177001_2, .slice none 0 0] 43 (0, 0)) (by (with_reducible repeat (first | refine blk_drewN ?_ _ | refine blk_drew ?_ | refine blk_alloc ?_ _)); exact BK176.out)) (g := gb184) (o := .cells #[.string (⟨#[]⟩ : ByteArray), .bool true, .slice Ao44 x185002_2.length co44] 43 (0, 0)) (by (with_reducible repeat (first | refine blk_drewN ?_ _ | refine blk_drew ?_ | refine blk_alloc ?_ _)); exact BK184.out)) (below_size (by repeat (first | (with_reducible first | exact HB.out | apply below_alloc | apply pw_below_drewN | apply below_drew1 | refine below_set ?_ GE176.out | refine below_set ?_ GE184.out) | exact HB.out)))); have n2_ := Aside0.mk (blk_below (g := gb176) (o := .cells #[.string x177000_2, .bool x177001_2, .slice none 0 0] 43 (0, 0)) (by (with_reducible repeat (first | refine blk_drewN ?_ _ | refine blk_drew ?_ | refine blk_alloc ?_ _)); exact BK176.out) hb); have n3_ := Aside0.mk (blk_below (g := gb184) (o := .cells #[.string (⟨#[]⟩ : ByteArray), .bool true, .slice Ao44 x185002_2.length co44] 43 (0, 0)) (by (with_reducible repeat (first | refine blk_drewN ?_ _ | refine blk_drew ?_ | refine blk_alloc ?_ _)); exact BK184.out) hb); have n4_ := Aside0.mk (below_step (by repeat (first | (with_reducible first | exact HB.out | apply below_alloc | apply pw_below_drewN | apply below_drew1 | refine below_set ?_ GE176.out | refine below_set ?_ GE184.out) | exact HB.out)) hb); clear HO_185002; clear BK176; clear BK184; clear HB; have HO_185002 := n0_; have HO189 := n1_; have BK176 := n2_; have BK184 := n3_; have HB := n4_; clear n0_ n1_ n2_ n3_ n4_; (try clear hb); (try clear hb2); (try clear hk); (try clear hi); (try clear ho0)) | ((with_reducible refine gate_dst (N := 10) rfl ?_); refine box_event ?hg (N := 10) ?hd (cs := #[.string (⟨#[]⟩ : ByteArray), .bool false, .slice none 0 0]) (t := 43) ?hr ?_; (case hd => rfl); (case hg => rfl); (case hr => first | (go_simp; done) | (go_simp; rfl)); intro gb191 hg w46 hbox hb; have n0_ := Aside0.mk (Kd.R_below (Kd.R_elderB (by (with_reducible repeat (first | apply Kd.R_alloc | apply Kd.R_drewN | apply Kd.R_drew)); exact HO_185002.out) gb191 (Nat.le_of_eq hg.symm)) hb); have n1_ := Aside0.mk (Kd.R_below (Kd.R_elderB (by (with_reducible repeat (first | apply Kd.R_alloc | apply Kd.R_drewN | apply Kd.R_drew)); exact HO189.out) gb191 (Nat.le_of_eq hg.symm)) hb); have n2_ := Aside0.mk (blk_below (g := gb176) (o := .cells #[.string x177000_2, .bool x177001_2, .slice none 0 0] 43 (0, 0)) (by (with_reducible repeat (first | refine blk_drewN ?_ _ | refine blk_drew ?_ | refine blk_alloc ?_ _)); exact BK176.out) hb); have n3_ := Aside0.mk (blk_below (g := gb184) (o := .cells #[.string (⟨#[]⟩ : ByteArray), .bool true, .slice Ao44 x185002_2.length co44] 43 (0, 0)) (by (with_reducible repeat (first | refine blk_drewN ?_ _ | refine blk_drew ?_ | refine blk_alloc ?_ _)); exact BK184.out) hb); have n4_ := Aside0.mk (below_step (by repeat (first | (with_reducible first | exact HB.out | apply below_alloc | apply pw_below_drewN | apply below_drew1 | refine below_set ?_ GE176.out | refine below_set ?_ GE184.out) | exact HB.out)) hb); have n5_ := Aside0.mk (hbox); have n6_ := Aside0.mk ((by rw [hg]; exact (below_size (by repeat (first | (with_reducible first | exact HB.out | apply below_alloc | apply pw_below_drewN | apply below_drew1 | refine below_set ?_ GE176.out | refine below_set ?_ GE184.out) | exact HB.out))) : w.heap.size ≤ gb191)); have n7_ := Aside0.mk ((by rw [hg]; exact (below_size (by repeat (first | (with_reducible first | exact HB.out | apply below_alloc | apply pw_below_drewN | apply below_drew1 | refine below_set ?_ GE176.out | refine below_set ?_ GE184.out) | exact HB.out))) : w.heap.size ≤ gb191)); have n8_ := Aside0.mk ((by rw [hg]; exact Nat.ne_of_lt (blk_lt (g := gb176) (o := .cells #[.string x177000_2, .bool x177001_2, .slice none 0 0] 43 (0, 0)) (by (with_reducible repeat (first | refine blk_drewN ?_ _ | refine blk_drew ?_ | refine blk_alloc ?_ _)); exact BK176.out)) : gb176 ≠ gb191)); have n9_ := Aside0.mk ((by rw [hg]; exact Nat.ne_of_gt (blk_lt (g := gb176) (o := .cells #[.string x177000_2, .bool x177001_2, .slice none 0 0] 43 (0, 0)) (by (with_reducible repeat (first | refine blk_drewN ?_ _ | refine blk_drew ?_ | refine blk_alloc ?_ _)); exact BK176.out)) : gb191 ≠ gb176)); have n10_ := Aside0.mk ((by rw [hg]; exact Nat.ne_of_lt (blk_lt (g := gb184) (o := .cells #[.string (⟨#[]⟩ : ByteArray), .bool true, .slice Ao44 x185002_2.length co44] 43 (0, 0)) (by (with_reducible repeat (first | refine blk_drewN ?_ _ | refine blk_drew ?_ | refine blk_alloc ?_ _)); exact BK184.out)) : gb184 ≠ gb191)); have n11_ := Aside0.mk ((by rw [hg]; exact Nat.ne_of_gt (blk_lt (g := gb184) (o := .cells #[.string (⟨#[]⟩ : ByteArray), .bool true, .slice Ao44 x185002_2.length co44] 43 (0, 0)) (by (with_reducible repeat (first | refine blk_drewN ?_ _ | refine blk_drew ?_ | refine blk_alloc ?_ _)); exact BK184.out)) : gb191 ≠ gb184)); clear HO_185002; clear HO189; clear BK176; clear BK184; clear HB; have HO_185002 := n0_; have HO189 := n1_; have BK176 := n2_; have BK184 := n3_; have HB := n4_; have BK191 := n5_; have GW191 := n6_; have GE191 := n7_; have NB176_191 := n8_; have NB191_176 := n9_; have NB184_191 := n10_; have NB191_184 := n11_; clear n0_ n1_ n2_ n3_ n4_ n5_ n6_ n7_ n8_ n9_ n10_ n11_; clear hb hbox hg; have hnb47 := NB191_176.out; have hnc47 := NB176_191.out; have hnb48 := NB191_184.out; have hnc48 := NB184_191.out; have hcz49_0 : w46.cell? ⟨gb191, 0, none⟩ = some (.string (⟨#[]⟩ : ByteArray)) := (blk_cell BK191.out 0).trans rfl; have hcz49_1 : w46.cell? ⟨gb191, 1, none⟩ = some (.bool false) := (blk_cell BK191.out 1).trans rfl; have hcz49_2 : w46.cell? ⟨gb191, 2, none⟩ = some (.slice none 0 0) := (blk_cell BK191.out 2).trans rfl; have hfz49_0 := blk_frozen BK191.out 0; have hfz49_1 := blk_frozen BK191.out 1; have hfz49_2 := blk_frozen BK191.out 2; obtain ⟨Ao50, co50, eo50⟩ := Kd.R_slice HO189.out; subst eo50) | ((with_reducible refine gate_store (t := 43) (p := 10) rfl ?_); refine store_event (t := 43) (p := 10) (v := ?vo_w51) (w1 := (((w46.setCell ⟨gb191, 0, none⟩ (.string t185)).setCell ⟨gb191, 1, none⟩ (.bool t186)).setCell ⟨gb191, 2, none⟩ (.slice Ao50 t187.length co50))) ?hg ?ho ?hn ?hr ?_; (case ho => rfl); (case hg => rfl); (case hn => rfl); (case hr => first | (go_simp; done) | (go_simp; rfl)); intro w51 hw; have n0_ : Aside0 (Kd.R k43 43 w51 w.heap.size (fun k_ => some k_ ≠ (.slice Ao50 t187.length co50 : Value).ownBlock ∧ k_ ≠ gb176 ∧ k_ ≠ gb184 ∧ k_ ≠ gb191) (.slice Ao44 x185002_2.length co44) x185002_2) := ⟨(by rw [hw]; exact (by (with_reducible repeat (first | apply Kd.R_alloc | apply Kd.R_drewN | apply Kd.R_drew)); exact Kd.R_mono (Kd.R_far (p := ⟨gb191, 2, none⟩) (Kd.R_far (p := ⟨gb191, 1, none⟩) (Kd.R_far (p := ⟨gb191, 0, none⟩) (Kd.R_mono HO_185002.out (fun k_ hk => (⟨hk, hk.2⟩ : _ ∧ k_ ≠ gb191))) (fun _ hk => hk.2) (.string t185)) (fun _ hk => hk.2) (.bool t186)) (fun _ hk => hk.2) (.slice Ao50 t187.length co50)) (fun _ hk => ⟨hk.1.1.2, ⟨hk.1.1.1.1, ⟨hk.1.1.1.2, hk.1.2⟩⟩⟩)))⟩; have n1_ : Aside0 (Kd.R k43 43 w51 w.heap.size (fun k_ => some k_ ≠ (.slice Ao44 x185002_2.length co44 : Value).ownBlock ∧ k_ ≠ gb176 ∧ k_ ≠ gb184 ∧ k_ ≠ gb191) (.slice Ao50 t187.length co50) t187) := ⟨(by rw [hw]; exact (by (with_reducible repeat (first | apply Kd.R_alloc | apply Kd.R_drewN | apply Kd.R_drew)); exact Kd.R_mono (Kd.R_far (p := ⟨gb191, 2, none⟩) (Kd.R_far (p := ⟨gb191, 1, none⟩) (Kd.R_far (p := ⟨gb191, 0, none⟩) (Kd.R_mono HO189.out (fun k_ hk => (⟨hk, hk.2⟩ : _ ∧ k_ ≠ gb191))) (fun _ hk => hk.2) (.string t185)) (fun _ hk => hk.2) (.bool t186)) (fun _ hk => hk.2) (.slice Ao50 t187.length co50)) (fun _ hk => ⟨hk.1.1.1.1.2, ⟨hk.1.1.1.2, ⟨hk.1.1.2, hk.1.2⟩⟩⟩)))⟩; have n2_ : Aside0 (w51.heap[gb176]? = some (.cells #[.string x177000_2, .bool x177001_2, .slice none 0 0] 43 (0, 0))) := ⟨(by rw [hw]; exact (by (with_reducible repeat (first | refine blk_drewN ?_ _ | refine blk_drew ?_ | refine blk_alloc ?_ _)); refine blk_far ?_ NB176_191.out _; (with_reducible repeat (first | refine blk_drewN ?_ _ | refine blk_drew ?_ | refine blk_alloc ?_ _)); refine blk_far ?_ NB176_191.out _; (with_reducible repeat (first | refine blk_drewN ?_ _ | refine blk_drew ?_ | refine blk_alloc ?_ _)); refine blk_far ?_ NB176_191.out _; (with_reducible repeat (first | refine blk_drewN ?_ _ | refine blk_drew ?_ | refine blk_alloc ?_ _)); exact BK176.out))⟩; have n3_ : Aside0 (w51.heap[gb184]? = some (.cells #[.string (⟨#[]⟩ : ByteArray), .bool true, .slice Ao44 x185002_2.length co44] 43 (0, 0))) := ⟨(by rw [hw]; exact (by (with_reducible repeat (first | refine blk_drewN ?_ _ | refine blk_drew ?_ | refine blk_alloc ?_ _)); refine blk_far ?_ NB184_191.out _; (with_reducible repeat (first | refine blk_drewN ?_ _ | refine blk_drew ?_ | refine blk_alloc ?_ _)); refine blk_far ?_ NB184_191.out _; (with_reducible repeat (first | refine blk_drewN ?_ _ | refine blk_drew ?_ | refine blk_alloc ?_ _)); refine blk_far ?_ NB184_191.out _; (with_reducible repeat (first | refine blk_drewN ?_ _ | refine blk_drew ?_ | refine blk_alloc ?_ _)); exact BK184.out))⟩; have n4_ : Aside0 (w51.heap[gb191]? = some (.cells #[.string t185, .bool t186, .slice Ao50 t187.length co50] 43 (0, 0))) := ⟨(by rw [hw]; exact (by (with_reducible repeat (first | refine blk_drewN ?_ _ | refine blk_drew ?_ | refine blk_alloc ?_ _)); refine blk_put (cs := #[.string t185, .bool t186, .slice none 0 0]) ?_ 2 _ rfl; (with_reducible repeat (first | refine blk_drewN ?_ _ | refine blk_drew ?_ | refine blk_alloc ?_ _)); refine blk_put (cs := #[.string t185, .bool false, .slice none 0 0]) ?_ 1 _ rfl; (with_reducible repeat (first | refine blk_drewN ?_ _ | refine blk_drew ?_ | refine blk_alloc ?_ _)); refine blk_put (cs := #[.string (⟨#[]⟩ : ByteArray), .bool false, .slice none 0 0]) ?_ 0 _ rfl; (with_reducible repeat (first | refine blk_drewN ?_ _ | refine blk_drew ?_ | refine blk_alloc ?_ _)); exact BK191.out))⟩; have n5_ : Aside0 (Below w.heap.size w w51) := ⟨(by rw [hw]; exact (by repeat (first | (with_reducible first | exact HB.out | apply below_alloc | apply pw_below_drewN | apply below_drew1 | refine below_set ?_ GE176.out | refine below_set ?_ GE184.out | refine below_set ?_ GE191.out) | exact HB.out)))⟩; clear hw; clear HO_185002; clear HO189; clear BK176; clear BK184; clear BK191; clear HB; have HO_185002 := n0_; have HO189 := n1_; have BK176 := n2_; have BK184 := n3_; have BK191 := n4_; have HB := n5_; clear n0_ n1_ n2_ n3_ n4_ n5_; have hcz52_0 : w51.cell? ⟨gb184, 0, none⟩ = some (.string (⟨#[]⟩ : ByteArray)) := (blk_cell BK184.out 0).trans rfl; have hcz52_1 : w51.cell? ⟨gb184, 1, none⟩ = some (.bool true) := (blk_cell BK184.out 1).trans rfl; have hcz52_2 : w51.cell? ⟨gb184, 2, none⟩ = some (.slice Ao44 x185002_2.length co44) := (blk_cell BK184.out 2).trans rfl; have hfz52_0 := blk_frozen BK184.out 0; have hfz52_1 := blk_frozen BK184.out 1; have hfz52_2 := blk_frozen BK184.out 2; have hcz53_0 : w51.cell? ⟨gb191, 0, none⟩ = some (.string t185) := (blk_cell BK191.out 0).trans rfl; have hcz53_1 : w51.cell? ⟨gb191, 1, none⟩ = some (.bool t186) := (blk_cell BK191.out 1).trans rfl; have hcz53_2 : w51.cell? ⟨gb191, 2, none⟩ = some (.slice Ao50 t187.length co50) := (blk_cell BK191.out 2).trans rfl; have hfz53_0 := blk_frozen BK191.out 0; have hfz53_1 := blk_frozen BK191.out 1; have hfz53_2 := blk_frozen BK191.out 2) | ((with_reducible refine gate_builtin (b := .append) (xs := #[.tmp 113, .tmp 115]) rfl ?_); at_builtin; refine Kd.R_append k43 (w0 := w) w.heap.size rfl (.tmp 113) (.tmp 115) 41 43 (.agg #[(.string ⟨#[]⟩), (.bool false), (.slice none 0 0)]) 48 rfl Try.underlying41 info43 rfl (by decide) (by omega) (.slice Ao44 x185002_2.length co44) x185002_2 (⟨t185, t186, t187⟩ : S43) [.string t185, .bool t186, .slice Ao50 t187.length co50] (fun k_ => k_ ≠ gb176 ∧ k_ ≠ gb184 ∧ k_ ≠ gb191) (fun k_ => ((fun k_ => k_ ≠ gb176 ∧ k_ ≠ gb184 ∧ k_ ≠ gb191)) k_ ∧ some k_ ≠ (.slice Ao44 x185002_2.length co44 : Value).ownBlock) rfl rfl ?aP (fun _ hk => hk) ?aF ?aO ?aB ?aS ?aL ?_; (case aP => exact k43_mkM _ _ _ (⟨t185, t186, t187⟩ : S43) (Kd.R_mono (HO189.out) (fun k_ hk => ⟨⟨hk.2.1, ⟨hk.2.2.1, hk.2.2.2⟩⟩, hk.1⟩))); (case aB => exact (by repeat (first | (with_reducible first | exact HB.out | apply below_alloc | apply pw_below_drewN | apply below_drew1 | refine below_set ?_ GE176.out | refine below_set ?_ GE184.out | refine below_set ?_ GE191.out) | exact HB.out))); (case aF => exact (fun k_ hk => ⟨Kd.freshB (g := gb176) (o := .cells #[.string x177000_2, .bool x177001_2, .slice none 0 0] 43 (0, 0)) (by (with_reducible repeat (first | refine blk_drewN ?_ _ | refine blk_drew ?_ | refine blk_alloc ?_ _)); exact BK176.out) k_ hk, Kd.freshB (g := gb184) (o := .cells #[.string (⟨#[]⟩ : ByteArray), .bool true, .slice Ao44 x185002_2.length co44] 43 (0, 0)) (by (with_reducible repeat (first | refine blk_drewN ?_ _ | refine blk_drew ?_ | refine blk_alloc ?_ _)); exact BK184.out) k_ hk, Kd.freshB (g := gb191) (o := .cells #[.string t185, .bool t186, .slice Ao50 t187.length co50] 43 (0, 0)) (by (with_reducible repeat (first | refine blk_drewN ?_ _ | refine blk_drew ?_ | refine blk_alloc ?_ _)); exact BK191.out) k_ hk⟩)); (case aO => exact (by (with_reducible repeat (first | apply Kd.R_alloc | apply Kd.R_drewN | apply Kd.R_drew)); exact Kd.R_mono HO_185002.out (fun _ hk => ⟨hk.2.1, ⟨hk.2.2.1, hk.2.2.2⟩⟩))); (case aS => exact (below_size (by repeat (first | (with_reducible first | exact HB.out | apply below_alloc | apply pw_below_drewN | apply below_drew1 | refine below_set ?_ GE176.out | refine below_set ?_ GE184.out | refine below_set ?_ GE191.out) | exact HB.out)))); (case aL => have := LMc41.out; omega); intro v193 w54 ho hb hg hat; rw [← Ny192.out] at ho; have n0_ := Aside0.mk (blk_grown (g := gb176) (o := .cells #[.string x177000_2, .bool x177001_2, .slice none 0 0] 43 (0, 0)) (by (with_reducible repeat (first | refine blk_drewN ?_ _ | refine blk_drew ?_ | refine blk_alloc ?_ _)); exact BK176.out) hg (Kd.R_away HO_185002.out (fun _ hk => hk.2.1))); have n1_ := Aside0.mk (blk_grown (g := gb184) (o := .cells #[.string (⟨#[]⟩ : ByteArray), .bool true, .slice Ao44 x185002_2.length co44] 43 (0, 0)) (by (with_reducible repeat (first | refine blk_drewN ?_ _ | refine blk_drew ?_ | refine blk_alloc ?_ _)); exact BK184.out) hg (Kd.R_away HO_185002.out (fun _ hk => hk.2.2.1))); have n2_ := Aside0.mk (blk_grown (g := gb191) (o := .cells #[.string t185, .bool t186, .slice Ao50 t187.length co50] 43 (0, 0)) (by (with_reducible repeat (first | refine blk_drewN ?_ _ | refine blk_drew ?_ | refine blk_alloc ?_ _)); exact BK191.out) hg (Kd.R_away HO_185002.out (fun _ hk => hk.2.2.2))); have n3_ := Aside0.mk (hb); have n4_ := Aside0.mk (ho); clear BK176; clear BK184; clear BK191; clear HB; clear HO_185002; clear HO189; have BK176 := n0_; have BK184 := n1_; have BK191 := n2_; have HB := n3_; have HO194 := n4_; clear n0_ n1_ n2_ n3_ n4_; clear ho hb hg hat; obtain ⟨Ao55, co55, eo55⟩ := Kd.R_slice HO194.out; subst eo55; have hcz56_0 : w54.cell? ⟨gb184, 0, none⟩ = some (.string (⟨#[]⟩ : ByteArray)) := (blk_cell BK184.out 0).trans rfl; have hcz56_1 : w54.cell? ⟨gb184, 1, none⟩ = some (.bool true) := (blk_cell BK184.out 1).trans rfl; have hcz56_2 : w54.cell? ⟨gb184, 2, none⟩ = some (.slice Ao44 x185002_2.length co44) := (blk_cell BK184.out 2).trans rfl; have hfz56_0 := blk_frozen BK184.out 0; have hfz56_1 := blk_frozen BK184.out 1; have hfz56_2 := blk_frozen BK184.out 2))
                                      go_roundg kj18
                                      case measure => have := HJ3.out; have := HK2.out; have := HJ18.out; omega
                                      case rel => exact ⟨(t190), (x177000_2), (x177001_2), (y192), (.slice Ao55 y192.length co55), (by first | rfl | (simp; done) | (simp [*]; done)), H', ⟨by have := HJ3.out; have := HK2.out; have := HJ18.out; omega⟩, ⟨by (with_reducible repeat (first | apply Kd.R_alloc | apply Kd.R_drewN | apply Kd.R_drew)); exact Kd.R_mono (Kd.R_far (p := ⟨gb184, 2, none⟩) (Kd.R_mono HO194.out (fun k_ hk => (⟨hk, hk.2.1⟩ : _ ∧ k_ ≠ gb184))) (fun _ hk => hk.2) (.slice Ao55 y192.length co55)) (fun _ hk => ⟨hk.1.1, hk.1.2.1⟩)⟩, ⟨by (with_reducible repeat (first | refine blk_drewN ?_ _ | refine blk_drew ?_ | refine blk_alloc ?_ _)); refine blk_far ?_ NB176_184.out _; (with_reducible repeat (first | refine blk_drewN ?_ _ | refine blk_drew ?_ | refine blk_alloc ?_ _)); exact BK176.out⟩, ⟨by (with_reducible repeat (first | refine blk_drewN ?_ _ | refine blk_drew ?_ | refine blk_alloc ?_ _)); refine blk_put (cs := #[.string (⟨#[]⟩ : ByteArray), .bool true, .slice Ao44 x185002_2.length co44]) ?_ 2 _ rfl; (with_reducible repeat (first | refine blk_drewN ?_ _ | refine blk_drew ?_ | refine blk_alloc ?_ _)); exact BK184.out⟩, ⟨by repeat (first | (with_reducible first | exact HB.out | apply below_alloc | apply pw_below_drewN | apply below_drew1 | refine below_set ?_ GE176.out | refine below_set ?_ GE184.out | refine below_set ?_ GE191.out) | exact HB.out)⟩⟩
                                    · rw [if_neg c41] at H
                                      exact absurd H (by simp)
                                · rw [if_neg c28] at H
                                  have c28b0 : ((bt a0 x1_2) == 32) = false := beq_eq_false_iff_ne.mpr c28
                                  have c28b1 : ((bt a0 x1_2) != 32) = true := bne_iff_ne.mpr c28
                                  simp only [Option.some.injEq, Prod.mk.injEq] at H
                                  obtain ⟨rfl, rfl, rfl, rfl⟩ := H
                                  have hnb57 := NB184_176.out
                                  have hnc57 := NB176_184.out
                                  have hcz58_0 : wc.cell? ⟨gb184, 0, none⟩ = some (.string (⟨#[]⟩ : ByteArray)) := (blk_cell BK184.out 0).trans rfl
                                  have hcz58_1 : wc.cell? ⟨gb184, 1, none⟩ = some (.bool true) := (blk_cell BK184.out 1).trans rfl
                                  have hcz58_2 : wc.cell? ⟨gb184, 2, none⟩ = some (u185002) := (blk_cell BK184.out 2).trans rfl
                                  have hfz58_0 := blk_frozen BK184.out 0
                                  have hfz58_1 := blk_frozen BK184.out 1
                                  have hfz58_2 := blk_frozen BK184.out 2
                                  obtain ⟨Ao59, co59, eo59⟩ := Kd.R_slice HO_185002.out
                                  subst eo59
                                  have p27 : 0 ≤ (x1_2 : Int) := of_decide_eq_true (by first | (with_reducible assumption) | assumption)
                                  have q27 : x1_2 < (a0.size : Int) := of_decide_eq_true (by first | (with_reducible assumption) | assumption)
                                  have hx27 := bt_at a0 x1_2
                                  replace p27 := eq_true p27
                                  replace q27 := eq_true q27
                                  have hcz60_0 : wc.cell? ⟨gb176, 0, none⟩ = some (.string x177000_2) := (blk_cell BK176.out 0).trans rfl
                                  have hcz60_1 : wc.cell? ⟨gb176, 1, none⟩ = some (.bool x177001_2) := (blk_cell BK176.out 1).trans rfl
                                  have hcz60_2 : wc.cell? ⟨gb176, 2, none⟩ = some (.slice none 0 0) := (blk_cell BK176.out 2).trans rfl
                                  have hfz60_0 := blk_frozen BK176.out 0
                                  have hfz60_1 := blk_frozen BK176.out 1
                                  have hfz60_2 := blk_frozen BK176.out 2
                                  go_wp2
                                  refine bodyPost_ret (results_ct rfl _ _ gb176 43 #[.string (⟨#[]⟩ : ByteArray), .bool false, .slice none 0 0] (0, 0) _ rfl (by (with_reducible repeat (first | refine blk_drewN ?_ _ | refine blk_drew ?_ | refine blk_alloc ?_ _)); refine blk_put (cs := #[.string (⟨#[]⟩ : ByteArray), .bool false, .slice none 0 0]) ?_ 2 _ rfl; (with_reducible repeat (first | refine blk_drewN ?_ _ | refine blk_drew ?_ | refine blk_alloc ?_ _)); refine blk_put (cs := #[.string (⟨#[]⟩ : ByteArray), .bool x177001_2, .slice none 0 0]) ?_ 1 _ rfl; (with_reducible repeat (first | refine blk_drewN ?_ _ | refine blk_drew ?_ | refine blk_alloc ?_ _)); refine blk_put (cs := #[.string x177000_2, .bool x177001_2, .slice none 0 0]) ?_ 0 _ rfl; (with_reducible repeat (first | refine blk_drewN ?_ _ | refine blk_drew ?_ | refine blk_alloc ?_ _)); exact BK176.out) Try.underlying43 rfl (by kernel_rfl)) rfl ?_
                                  exact ⟨_, by first | rfl | (simp [errW_none, errW_some] <;> rfl) | (simp [*, errW_none, errW_some] <;> rfl), by first | exact Kd.R_nil _ _ _ _ _ | exact Kd.N_nil _ _ _ _ _ | exact Kd.V_nil _ _ _ _ _ | exact Kd.Q_nil _ _ _ _ _ | exact Kd.S_nil _ _ _ _ _, by repeat (first | (with_reducible first | exact HB.out | apply below_alloc | apply pw_below_drewN | apply below_drew1 | refine below_set ?_ GE176.out | refine below_set ?_ GE184.out) | exact HB.out)⟩
                              · rw [if_neg c26] at H
                                exact absurd H (by simp)
                            · rw [if_neg c25] at H
                              exact absurd H (by simp)
                          · rw [if_neg c24] at H
                            have c24b0 : decide (0 < (x185002_2.length : Int)) = false := decide_eq_false c24
                            have c24b1 : decide (0 < x185002_2.length) = false := decide_eq_false (by omega)
                            clear c24
                            replace H := Option.bind_eq_some_iff.mp H
                            obtain ⟨⟨t195, t196, t197, t200⟩, A610, H⟩ := H
                            replace H : (if t200 < 0 then (some ((⟨#[]⟩ : ByteArray), false, ([] : List (S43)), (-1))) else (if x185002_2.length < 2932031007402 then (hatchwayref08_parse.l1 kj18 a0 t200 a2 (⟨#[]⟩ : ByteArray) true (x185002_2 ++ [(⟨t195, t196, t197⟩ : S43)])) else (none))) = some (r1, r2, r3, r4) := H
                            have A61 := Aside0.mk A610
                            clear A610
                            by_cases c62 : t200 < 0
                            · rw [if_pos c62] at H
                              have c62b0 : decide (t200 < 0) = true := decide_eq_true c62
                              clear c62
                              simp only [Option.some.injEq, Prod.mk.injEq] at H
                              obtain ⟨rfl, rfl, rfl, rfl⟩ := H
                              have hnb63 := NB184_176.out
                              have hnc63 := NB176_184.out
                              have hcz64_0 : wc.cell? ⟨gb184, 0, none⟩ = some (.string (⟨#[]⟩ : ByteArray)) := (blk_cell BK184.out 0).trans rfl
                              have hcz64_1 : wc.cell? ⟨gb184, 1, none⟩ = some (.bool true) := (blk_cell BK184.out 1).trans rfl
                              have hcz64_2 : wc.cell? ⟨gb184, 2, none⟩ = some (u185002) := (blk_cell BK184.out 2).trans rfl
                              have hfz64_0 := blk_frozen BK184.out 0
                              have hfz64_1 := blk_frozen BK184.out 1
                              have hfz64_2 := blk_frozen BK184.out 2
                              obtain ⟨Ao65, co65, eo65⟩ := Kd.R_slice HO_185002.out
                              subst eo65
                              go_wp2_with (first | ((with_reducible refine gate_callee (f := 47) rfl ?_); refine goesL_ (some 106) rfl rfl Try.func47 (by kernel_rfl) rfl #[.string a0, .int .i64 x1_2, .int .i64 (wrap64 (a2 + 1))] rfl (by (try simp only [List.map_toArray, List.map_cons, List.map_nil]); first | done | rfl | (simp only [List.length_drop, List.length_take]; rfl)) ?_; (with_reducible refine (ih kj18 (by have := HJ3.out; have := HK2.out; have := HJ18.out; omega) a0 x1_2 (wrap64 (a2 + 1)) t195 t196 t197 t200 _ A61.out).mono ?_); rintro e w66 ⟨v198, rfl, ho0, hb⟩; refine ⟨_, rfl, ?_⟩; have n0_ := Aside0.mk (Kd.R_elder' (by (with_reducible repeat (first | apply Kd.R_alloc | apply Kd.R_drewN | apply Kd.R_drew)); exact HO_185002.out) (Kd.R_base ho0) hb); have n1_ := Aside0.mk (Kd.R_lower (Kd.R_newB (Kd.R_newB (Kd.R_new' ho0 (Kd.R_lt (by (with_reducible repeat (first | apply Kd.R_alloc | apply Kd.R_drewN | apply Kd.R_drew)); exact HO_185002.out))) (g := gb176) (o := .cells #[.string x177000_2, .bool x177001_2, .slice none 0 0] 43 (0, 0)) (by (with_reducible repeat (first | refine blk_drewN ?_ _ | refine blk_drew ?_ | refine blk_alloc ?_ _)); exact BK176.out)) (g := gb184) (o := .cells #[.string (⟨#[]⟩ : ByteArray), .bool true, .slice Ao65 x185002_2.length co65] 43 (0, 0)) (by (with_reducible repeat (first | refine blk_drewN ?_ _ | refine blk_drew ?_ | refine blk_alloc ?_ _)); exact BK184.out)) (below_size (by repeat (first | (with_reducible first | exact HB.out | apply below_alloc | apply pw_below_drewN | apply below_drew1 | refine below_set ?_ GE176.out | refine below_set ?_ GE184.out) | exact HB.out)))); have n2_ := Aside0.mk (blk_below (g := gb176) (o := .cells #[.string x177000_2, .bool x177001_2, .slice none 0 0] 43 (0, 0)) (by (with_reducible repeat (first | refine blk_drewN ?_ _ | refine blk_drew ?_ | refine blk_alloc ?_ _)); exact BK176.out) hb); have n3_ := Aside0.mk (blk_below (g := gb184) (o := .cells #[.string (⟨#[]⟩ : ByteArray), .bool true, .slice Ao65 x185002_2.length co65] 43 (0, 0)) (by (with_reducible repeat (first | refine blk_drewN ?_ _ | refine blk_drew ?_ | refine blk_alloc ?_ _)); exact BK184.out) hb); have n4_ := Aside0.mk (below_step (by repeat (first | (with_reducible first | exact HB.out | apply below_alloc | apply pw_below_drewN | apply below_drew1 | refine below_set ?_ GE176.out | refine below_set ?_ GE184.out) | exact HB.out)) hb); clear HO_185002; clear BK176; clear BK184; clear HB; have HO_185002 := n0_; have HO199 := n1_; have BK176 := n2_; have BK184 := n3_; have HB := n4_; clear n0_ n1_ n2_ n3_ n4_; (try clear hb); (try clear hb2); (try clear hk); (try clear hi); (try clear ho0)) | ((with_reducible refine gate_dst (N := 10) rfl ?_); refine box_event ?hg (N := 10) ?hd (cs := #[.string (⟨#[]⟩ : ByteArray), .bool false, .slice none 0 0]) (t := 43) ?hr ?_; (case hd => rfl); (case hg => rfl); (case hr => first | (go_simp; done) | (go_simp; rfl)); intro gb201 hg w67 hbox hb; have n0_ := Aside0.mk (Kd.R_below (Kd.R_elderB (by (with_reducible repeat (first | apply Kd.R_alloc | apply Kd.R_drewN | apply Kd.R_drew)); exact HO_185002.out) gb201 (Nat.le_of_eq hg.symm)) hb); have n1_ := Aside0.mk (Kd.R_below (Kd.R_elderB (by (with_reducible repeat (first | apply Kd.R_alloc | apply Kd.R_drewN | apply Kd.R_drew)); exact HO199.out) gb201 (Nat.le_of_eq hg.symm)) hb); have n2_ := Aside0.mk (blk_below (g := gb176) (o := .cells #[.string x177000_2, .bool x177001_2, .slice none 0 0] 43 (0, 0)) (by (with_reducible repeat (first | refine blk_drewN ?_ _ | refine blk_drew ?_ | refine blk_alloc ?_ _)); exact BK176.out) hb); have n3_ := Aside0.mk (blk_below (g := gb184) (o := .cells #[.string (⟨#[]⟩ : ByteArray), .bool true, .slice Ao65 x185002_2.length co65] 43 (0, 0)) (by (with_reducible repeat (first | refine blk_drewN ?_ _ | refine blk_drew ?_ | refine blk_alloc ?_ _)); exact BK184.out) hb); have n4_ := Aside0.mk (below_step (by repeat (first | (with_reducible first | exact HB.out | apply below_alloc | apply pw_below_drewN | apply below_drew1 | refine below_set ?_ GE176.out | refine below_set ?_ GE184.out) | exact HB.out)) hb); have n5_ := Aside0.mk (hbox); have n6_ := Aside0.mk ((by rw [hg]; exact (below_size (by repeat (first | (with_reducible first | exact HB.out | apply below_alloc | apply pw_below_drewN | apply below_drew1 | refine below_set ?_ GE176.out | refine below_set ?_ GE184.out) | exact HB.out))) : w.heap.size ≤ gb201)); have n7_ := Aside0.mk ((by rw [hg]; exact (below_size (by repeat (first | (with_reducible first | exact HB.out | apply below_alloc | apply pw_below_drewN | apply below_drew1 | refine below_set ?_ GE176.out | refine below_set ?_ GE184.out) | exact HB.out))) : w.heap.size ≤ gb201)); have n8_ := Aside0.mk ((by rw [hg]; exact Nat.ne_of_lt (blk_lt (g := gb176) (o := .cells #[.string x177000_2, .bool x177001_2, .slice none 0 0] 43 (0, 0)) (by (with_reducible repeat (first | refine blk_drewN ?_ _ | refine blk_drew ?_ | refine blk_alloc ?_ _)); exact BK176.out)) : gb176 ≠ gb201)); have n9_ := Aside0.mk ((by rw [hg]; exact Nat.ne_of_gt (blk_lt (g := gb176) (o := .cells #[.string x177000_2, .bool x177001_2, .slice none 0 0] 43 (0, 0)) (by (with_reducible repeat (first | refine blk_drewN ?_ _ | refine blk_drew ?_ | refine blk_alloc ?_ _)); exact BK176.out)) : gb201 ≠ gb176)); have n10_ := Aside0.mk ((by rw [hg]; exact Nat.ne_of_lt (blk_lt (g := gb184) (o := .cells #[.string (⟨#[]⟩ : ByteArray), .bool true, .slice Ao65 x185002_2.length co65] 43 (0, 0)) (by (with_reducible repeat (first | refine blk_drewN ?_ _ | refine blk_drew ?_ | refine blk_alloc ?_ _)); exact BK184.out)) : gb184 ≠ gb201)); have n11_ := Aside0.mk ((by rw [hg]; exact Nat.ne_of_gt (blk_lt (g := gb184) (o := .cells #[.string (⟨#[]⟩ : ByteArray), .bool true, .slice Ao65 x185002_2.length co65] 43 (0, 0)) (by (with_reducible repeat (first | refine blk_drewN ?_ _ | refine blk_drew ?_ | refine blk_alloc ?_ _)); exact BK184.out)) : gb201 ≠ gb184)); clear HO_185002; clear HO199; clear BK176; clear BK184; clear HB; have HO_185002 := n0_; have HO199 := n1_; have BK176 := n2_; have BK184 := n3_; have HB := n4_; have BK201 := n5_; have GW201 := n6_; have GE201 := n7_; have NB176_201 := n8_; have NB201_176 := n9_; have NB184_201 := n10_; have NB201_184 := n11_; clear n0_ n1_ n2_ n3_ n4_ n5_ n6_ n7_ n8_ n9_ n10_ n11_; clear hb hbox hg; have hnb68 := NB201_176.out; have hnc68 := NB176_201.out; have hnb69 := NB201_184.out; have hnc69 := NB184_201.out; have hcz70_0 : w67.cell? ⟨gb201, 0, none⟩ = some (.string (⟨#[]⟩ : ByteArray)) := (blk_cell BK201.out 0).trans rfl; have hcz70_1 : w67.cell? ⟨gb201, 1, none⟩ = some (.bool false) := (blk_cell BK201.out 1).trans rfl; have hcz70_2 : w67.cell? ⟨gb201, 2, none⟩ = some (.slice none 0 0) := (blk_cell BK201.out 2).trans rfl; have hfz70_0 := blk_frozen BK201.out 0; have hfz70_1 := blk_frozen BK201.out 1; have hfz70_2 := blk_frozen BK201.out 2; obtain ⟨Ao71, co71, eo71⟩ := Kd.R_slice HO199.out; subst eo71; have hcz72_0 : w67.cell? ⟨gb176, 0, none⟩ = some (.string x177000_2) := (blk_cell BK176.out 0).trans rfl; have hcz72_1 : w67.cell? ⟨gb176, 1, none⟩ = some (.bool x177001_2) := (blk_cell BK176.out 1).trans rfl; have hcz72_2 : w67.cell? ⟨gb176, 2, none⟩ = some (.slice none 0 0) := (blk_cell BK176.out 2).trans rfl; have hfz72_0 := blk_frozen BK176.out 0; have hfz72_1 := blk_frozen BK176.out 1; have hfz72_2 := blk_frozen BK176.out 2))
                              refine bodyPost_ret (results_ct rfl _ _ gb176 43 #[.string (⟨#[]⟩ : ByteArray), .bool false, .slice none 0 0] (0, 0) _ rfl (by (with_reducible repeat (first | refine blk_drewN ?_ _ | refine blk_drew ?_ | refine blk_alloc ?_ _)); refine blk_put (cs := #[.string (⟨#[]⟩ : ByteArray), .bool false, .slice none 0 0]) ?_ 2 _ rfl; (with_reducible repeat (first | refine blk_drewN ?_ _ | refine blk_drew ?_ | refine blk_alloc ?_ _)); refine blk_put (cs := #[.string (⟨#[]⟩ : ByteArray), .bool x177001_2, .slice none 0 0]) ?_ 1 _ rfl; (with_reducible repeat (first | refine blk_drewN ?_ _ | refine blk_drew ?_ | refine blk_alloc ?_ _)); refine blk_put (cs := #[.string x177000_2, .bool x177001_2, .slice none 0 0]) ?_ 0 _ rfl; (with_reducible repeat (first | refine blk_drewN ?_ _ | refine blk_drew ?_ | refine blk_alloc ?_ _)); refine blk_far ?_ NB176_201.out _; (with_reducible repeat (first | refine blk_drewN ?_ _ | refine blk_drew ?_ | refine blk_alloc ?_ _)); refine blk_far ?_ NB176_201.out _; (with_reducible repeat (first | refine blk_drewN ?_ _ | refine blk_drew ?_ | refine blk_alloc ?_ _)); refine blk_far ?_ NB176_201.out _; (with_reducible repeat (first | refine blk_drewN ?_ _ | refine blk_drew ?_ | refine blk_alloc ?_ _)); exact BK176.out) Try.underlying43 rfl (by kernel_rfl)) rfl ?_
                              exact ⟨_, by first | rfl | (simp [errW_none, errW_some] <;> rfl) | (simp [*, errW_none, errW_some] <;> rfl), by first | exact Kd.R_nil _ _ _ _ _ | exact Kd.N_nil _ _ _ _ _ | exact Kd.V_nil _ _ _ _ _ | exact Kd.Q_nil _ _ _ _ _ | exact Kd.S_nil _ _ _ _ _, by repeat (first | (with_reducible first | exact HB.out | apply below_alloc | apply pw_below_drewN | apply below_drew1 | refine below_set ?_ GE176.out | refine below_set ?_ GE184.out | refine below_set ?_ GE201.out) | exact HB.out)⟩
                            · rw [if_neg c62] at H
                              have c62b0 : decide (t200 < 0) = false := decide_eq_false c62
                              clear c62
                              by_cases c73 : x185002_2.length < 2932031007402
                              · rw [if_pos c73] at H
                                have LMc73 := Aside0.mk c73
                                clear c73
                                obtain ⟨y202, hy202⟩ : ∃ y_ : List (S43), y_ = (x185002_2 ++ [(⟨t195, t196, t197⟩ : S43)]) := ⟨_, rfl⟩
                                replace H : (hatchwayref08_parse.l1 kj18 a0 t200 a2 (⟨#[]⟩ : ByteArray) true y202) = some (r1, r2, r3, r4) := by first | (rw [hy202]; with_reducible exact H) | (have H2_ := (Option.bind_some _ _).symm.trans H; rw [hy202]; with_reducible exact H2_) | (have H2_ := (Option.bind_some _ _).symm.trans H; with_reducible exact H2_) | with_reducible exact H | (rw [hy202]; exact H) | exact H
                                have Ny202 := Aside0.mk hy202
                                clear hy202
                                have H' := Aside0.mk H
                                clear H
                                have hnb74 := NB184_176.out
                                have hnc74 := NB176_184.out
                                have hcz75_0 : wc.cell? ⟨gb184, 0, none⟩ = some (.string (⟨#[]⟩ : ByteArray)) := (blk_cell BK184.out 0).trans rfl
                                have hcz75_1 : wc.cell? ⟨gb184, 1, none⟩ = some (.bool true) := (blk_cell BK184.out 1).trans rfl
                                have hcz75_2 : wc.cell? ⟨gb184, 2, none⟩ = some (u185002) := (blk_cell BK184.out 2).trans rfl
                                have hfz75_0 := blk_frozen BK184.out 0
                                have hfz75_1 := blk_frozen BK184.out 1
                                have hfz75_2 := blk_frozen BK184.out 2
                                obtain ⟨Ao76, co76, eo76⟩ := Kd.R_slice HO_185002.out
                                subst eo76
                                go_wp2_with (first | ((with_reducible refine gate_callee (f := 47) rfl ?_); refine goesL_ (some 106) rfl rfl Try.func47 (by kernel_rfl) rfl #[.string a0, .int .i64 x1_2, .int .i64 (wrap64 (a2 + 1))] rfl (by (try simp only [List.map_toArray, List.map_cons, List.map_nil]); first | done | rfl | (simp only [List.length_drop, List.length_take]; rfl)) ?_; (with_reducible refine (ih kj18 (by have := HJ3.out; have := HK2.out; have := HJ18.out; omega) a0 x1_2 (wrap64 (a2 + 1)) t195 t196 t197 t200 _ A61.out).mono ?_); rintro e w77 ⟨v198, rfl, ho0, hb⟩; refine ⟨_, rfl, ?_⟩; have n0_ := Aside0.mk (Kd.R_elder' (by (with_reducible repeat (first | apply Kd.R_alloc | apply Kd.R_drewN | apply Kd.R_drew)); exact HO_185002.out) (Kd.R_base ho0) hb); have n1_ := Aside0.mk (Kd.R_lower (Kd.R_newB (Kd.R_newB (Kd.R_new' ho0 (Kd.R_lt (by (with_reducible repeat (first | apply Kd.R_alloc | apply Kd.R_drewN | apply Kd.R_drew)); exact HO_185002.out))) (g := gb176) (o := .cells #[.string x177000_2, .bool x177001_2, .slice none 0 0] 43 (0, 0)) (by (with_reducible repeat (first | refine blk_drewN ?_ _ | refine blk_drew ?_ | refine blk_alloc ?_ _)); exact BK176.out)) (g := gb184) (o := .cells #[.string (⟨#[]⟩ : ByteArray), .bool true, .slice Ao76 x185002_2.length co76] 43 (0, 0)) (by (with_reducible repeat (first | refine blk_drewN ?_ _ | refine blk_drew ?_ | refine blk_alloc ?_ _)); exact BK184.out)) (below_size (by repeat (first | (with_reducible first | exact HB.out | apply below_alloc | apply pw_below_drewN | apply below_drew1 | refine below_set ?_ GE176.out | refine below_set ?_ GE184.out) | exact HB.out)))); have n2_ := Aside0.mk (blk_below (g := gb176) (o := .cells #[.string x177000_2, .bool x177001_2, .slice none 0 0] 43 (0, 0)) (by (with_reducible repeat (first | refine blk_drewN ?_ _ | refine blk_drew ?_ | refine blk_alloc ?_ _)); exact BK176.out) hb); have n3_ := Aside0.mk (blk_below (g := gb184) (o := .cells #[.string (⟨#[]⟩ : ByteArray), .bool true, .slice Ao76 x185002_2.length co76] 43 (0, 0)) (by (with_reducible repeat (first | refine blk_drewN ?_ _ | refine blk_drew ?_ | refine blk_alloc ?_ _)); exact BK184.out) hb); have n4_ := Aside0.mk (below_step (by repeat (first | (with_reducible first | exact HB.out | apply below_alloc | apply pw_below_drewN | apply below_drew1 | refine below_set ?_ GE176.out | refine below_set ?_ GE184.out) | exact HB.out)) hb); clear HO_185002; clear BK176; clear BK184; clear HB; have HO_185002 := n0_; have HO199 := n1_; have BK176 := n2_; have BK184 := n3_; have HB := n4_; clear n0_ n1_ n2_ n3_ n4_; (try clear hb); (try clear hb2); (try clear hk); (try clear hi); (try clear ho0)) | ((with_reducible refine gate_dst (N := 10) rfl ?_); refine box_event ?hg (N := 10) ?hd (cs := #[.string (⟨#[]⟩ : ByteArray), .bool false, .slice none 0 0]) (t := 43) ?hr ?_; (case hd => rfl); (case hg => rfl); (case hr => first | (go_simp; done) | (go_simp; rfl)); intro gb201 hg w78 hbox hb; have n0_ := Aside0.mk (Kd.R_below (Kd.R_elderB (by (with_reducible repeat (first | apply Kd.R_alloc | apply Kd.R_drewN | apply Kd.R_drew)); exact HO_185002.out) gb201 (Nat.le_of_eq hg.symm)) hb); have n1_ := Aside0.mk (Kd.R_below (Kd.R_elderB (by (with_reducible repeat (first | apply Kd.R_alloc | apply Kd.R_drewN | apply Kd.R_drew)); exact HO199.out) gb201 (Nat.le_of_eq hg.symm)) hb); have n2_ := Aside0.mk (blk_below (g := gb176) (o := .cells #[.string x177000_2, .bool x177001_2, .slice none 0 0] 43 (0, 0)) (by (with_reducible repeat (first | refine blk_drewN ?_ _ | refine blk_drew ?_ | refine blk_alloc ?_ _)); exact BK176.out) hb); have n3_ := Aside0.mk (blk_below (g := gb184) (o := .cells #[.string (⟨#[]⟩ : ByteArray), .bool true, .slice Ao76 x185002_2.length co76] 43 (0, 0)) (by (with_reducible repeat (first | refine blk_drewN ?_ _ | refine blk_drew ?_ | refine blk_alloc ?_ _)); exact BK184.out) hb); have n4_ := Aside0.mk (below_step (by repeat (first | (with_reducible first | exact HB.out | apply below_alloc | apply pw_below_drewN | apply below_drew1 | refine below_set ?_ GE176.out | refine below_set ?_ GE184.out) | exact HB.out)) hb); have n5_ := Aside0.mk (hbox); have n6_ := Aside0.mk ((by rw [hg]; exact (below_size (by repeat (first | (with_reducible first | exact HB.out | apply below_alloc | apply pw_below_drewN | apply below_drew1 | refine below_set ?_ GE176.out | refine below_set ?_ GE184.out) | exact HB.out))) : w.heap.size ≤ gb201)); have n7_ := Aside0.mk ((by rw [hg]; exact (below_size (by repeat (first | (with_reducible first | exact HB.out | apply below_alloc | apply pw_below_drewN | apply below_drew1 | refine below_set ?_ GE176.out | refine below_set ?_ GE184.out) | exact HB.out))) : w.heap.size ≤ gb201)); have n8_ := Aside0.mk ((by rw [hg]; exact Nat.ne_of_lt (blk_lt (g := gb176) (o := .cells #[.string x177000_2, .bool x177001_2, .slice none 0 0] 43 (0, 0)) (by (with_reducible repeat (first | refine blk_drewN ?_ _ | refine blk_drew ?_ | refine blk_alloc ?_ _)); exact BK176.out)) : gb176 ≠ gb201)); have n9_ := Aside0.mk ((by rw [hg]; exact Nat.ne_of_gt (blk_lt (g := gb176) (o := .cells #[.string x177000_2, .bool x177001_2, .slice none 0 0] 43 (0, 0)) (by (with_reducible repeat (first | refine blk_drewN ?_ _ | refine blk_drew ?_ | refine blk_alloc ?_ _)); exact BK176.out)) : gb201 ≠ gb176)); have n10_ := Aside0.mk ((by rw [hg]; exact Nat.ne_of_lt (blk_lt (g := gb184) (o := .cells #[.string (⟨#[]⟩ : ByteArray), .bool true, .slice Ao76 x185002_2.length co76] 43 (0, 0)) (by (with_reducible repeat (first | refine blk_drewN ?_ _ | refine blk_drew ?_ | refine blk_alloc ?_ _)); exact BK184.out)) : gb184 ≠ gb201)); have n11_ := Aside0.mk ((by rw [hg]; exact Nat.ne_of_gt (blk_lt (g := gb184) (o := .cells #[.string (⟨#[]⟩ : ByteArray), .bool true, .slice Ao76 x185002_2.length co76] 43 (0, 0)) (by (with_reducible repeat (first | refine blk_drewN ?_ _ | refine blk_drew ?_ | refine blk_alloc ?_ _)); exact BK184.out)) : gb201 ≠ gb184)); clear HO_185002; clear HO199; clear BK176; clear BK184; clear HB; have HO_185002 := n0_; have HO199 := n1_; have BK176 := n2_; have BK184 := n3_; have HB := n4_; have BK201 := n5_; have GW201 := n6_; have GE201 := n7_; have NB176_201 := n8_; have NB201_176 := n9_; have NB184_201 := n10_; have NB201_184 := n11_; clear n0_ n1_ n2_ n3_ n4_ n5_ n6_ n7_ n8_ n9_ n10_ n11_; clear hb hbox hg; have hnb79 := NB201_176.out; have hnc79 := NB176_201.out; have hnb80 := NB201_184.out; have hnc80 := NB184_201.out; have hcz81_0 : w78.cell? ⟨gb201, 0, none⟩ = some (.string (⟨#[]⟩ : ByteArray)) := (blk_cell BK201.out 0).trans rfl; have hcz81_1 : w78.cell? ⟨gb201, 1, none⟩ = some (.bool false) := (blk_cell BK201.out 1).trans rfl; have hcz81_2 : w78.cell? ⟨gb201, 2, none⟩ = some (.slice none 0 0) := (blk_cell BK201.out 2).trans rfl; have hfz81_0 := blk_frozen BK201.out 0; have hfz81_1 := blk_frozen BK201.out 1; have hfz81_2 := blk_frozen BK201.out 2; obtain ⟨Ao82, co82, eo82⟩ := Kd.R_slice HO199.out; subst eo82) | ((with_reducible refine gate_store (t := 43) (p := 10) rfl ?_); refine store_event (t := 43) (p := 10) (v := ?vo_w83) (w1 := (((w78.setCell ⟨gb201, 0, none⟩ (.string t195)).setCell ⟨gb201, 1, none⟩ (.bool t196)).setCell ⟨gb201, 2, none⟩ (.slice Ao82 t197.length co82))) ?hg ?ho ?hn ?hr ?_; (case ho => rfl); (case hg => rfl); (case hn => rfl); (case hr => first | (go_simp; done) | (go_simp; rfl)); intro w83 hw; have n0_ : Aside0 (Kd.R k43 43 w83 w.heap.size (fun k_ => some k_ ≠ (.slice Ao82 t197.length co82 : Value).ownBlock ∧ k_ ≠ gb176 ∧ k_ ≠ gb184 ∧ k_ ≠ gb201) (.slice Ao76 x185002_2.length co76) x185002_2) := ⟨(by rw [hw]; exact (by (with_reducible repeat (first | apply Kd.R_alloc | apply Kd.R_drewN | apply Kd.R_drew)); exact Kd.R_mono (Kd.R_far (p := ⟨gb201, 2, none⟩) (Kd.R_far (p := ⟨gb201, 1, none⟩) (Kd.R_far (p := ⟨gb201, 0, none⟩) (Kd.R_mono HO_185002.out (fun k_ hk => (⟨hk, hk.2⟩ : _ ∧ k_ ≠ gb201))) (fun _ hk => hk.2) (.string t195)) (fun _ hk => hk.2) (.bool t196)) (fun _ hk => hk.2) (.slice Ao82 t197.length co82)) (fun _ hk => ⟨hk.1.1.2, ⟨hk.1.1.1.1, ⟨hk.1.1.1.2, hk.1.2⟩⟩⟩)))⟩; have n1_ : Aside0 (Kd.R k43 43 w83 w.heap.size (fun k_ => some k_ ≠ (.slice Ao76 x185002_2.length co76 : Value).ownBlock ∧ k_ ≠ gb176 ∧ k_ ≠ gb184 ∧ k_ ≠ gb201) (.slice Ao82 t197.length co82) t197) := ⟨(by rw [hw]; exact (by (with_reducible repeat (first | apply Kd.R_alloc | apply Kd.R_drewN | apply Kd.R_drew)); exact Kd.R_mono (Kd.R_far (p := ⟨gb201, 2, none⟩) (Kd.R_far (p := ⟨gb201, 1, none⟩) (Kd.R_far (p := ⟨gb201, 0, none⟩) (Kd.R_mono HO199.out (fun k_ hk => (⟨hk, hk.2⟩ : _ ∧ k_ ≠ gb201))) (fun _ hk => hk.2) (.string t195)) (fun _ hk => hk.2) (.bool t196)) (fun _ hk => hk.2) (.slice Ao82 t197.length co82)) (fun _ hk => ⟨hk.1.1.1.1.2, ⟨hk.1.1.1.2, ⟨hk.1.1.2, hk.1.2⟩⟩⟩)))⟩; have n2_ : Aside0 (w83.heap[gb176]? = some (.cells #[.string x177000_2, .bool x177001_2, .slice none 0 0] 43 (0, 0))) := ⟨(by rw [hw]; exact (by (with_reducible repeat (first | refine blk_drewN ?_ _ | refine blk_drew ?_ | refine blk_alloc ?_ _)); refine blk_far ?_ NB176_201.out _; (with_reducible repeat (first | refine blk_drewN ?_ _ | refine blk_drew ?_ | refine blk_alloc ?_ _)); refine blk_far ?_ NB176_201.out _; (with_reducible repeat (first | refine blk_drewN ?_ _ | refine blk_drew ?_ | refine blk_alloc ?_ _)); refine blk_far ?_ NB176_201.out _; (with_reducible repeat (first | refine blk_drewN ?_ _ | refine blk_drew ?_ | refine blk_alloc ?_ _)); exact BK176.out))⟩; have n3_ : Aside0 (w83.heap[gb184]? = some (.cells #[.string (⟨#[]⟩ : ByteArray), .bool true, .slice Ao76 x185002_2.length co76] 43 (0, 0))) := ⟨(by rw [hw]; exact (by (with_reducible repeat (first | refine blk_drewN ?_ _ | refine blk_drew ?_ | refine blk_alloc ?_ _)); refine blk_far ?_ NB184_201.out _; (with_reducible repeat (first | refine blk_drewN ?_ _ | refine blk_drew ?_ | refine blk_alloc ?_ _)); refine blk_far ?_ NB184_201.out _; (with_reducible repeat (first | refine blk_drewN ?_ _ | refine blk_drew ?_ | refine blk_alloc ?_ _)); refine blk_far ?_ NB184_201.out _; (with_reducible repeat (first | refine blk_drewN ?_ _ | refine blk_drew ?_ | refine blk_alloc ?_ _)); exact BK184.out))⟩; have n4_ : Aside0 (w83.heap[gb201]? = some (.cells #[.string t195, .bool t196, .slice Ao82 t197.length co82] 43 (0, 0))) := ⟨(by rw [hw]; exact (by (with_reducible repeat (first | refine blk_drewN ?_ _ | refine blk_drew ?_ | refine blk_alloc ?_ _)); refine blk_put (cs := #[.string t195, .bool t196, .slice none 0 0]) ?_ 2 _ rfl; (with_reducible repeat (first | refine blk_drewN ?_ _ | refine blk_drew ?_ | refine blk_alloc ?_ _)); refine blk_put (cs := #[.string t195, .bool false, .slice none 0 0]) ?_ 1 _ rfl; (with_reducible repeat (first | refine blk_drewN ?_ _ | refine blk_drew ?_ | refine blk_alloc ?_ _)); refine blk_put (cs := #[.string (⟨#[]⟩ : ByteArray), .bool false, .slice none 0 0]) ?_ 0 _ rfl; (with_reducible repeat (first | refine blk_drewN ?_ _ | refine blk_drew ?_ | refine blk_alloc ?_ _)); exact BK201.out))⟩; have n5_ : Aside0 (Below w.heap.size w w83) := ⟨(by rw [hw]; exact (by repeat (first | (with_reducible first | exact HB.out | apply below_alloc | apply pw_below_drewN | apply below_drew1 | refine below_set ?_ GE176.out | refine below_set ?_ GE184.out | refine below_set ?_ GE201.out) | exact HB.out)))⟩; clear hw; clear HO_185002; clear HO199; clear BK176; clear BK184; clear BK201; clear HB; have HO_185002 := n0_; have HO199 := n1_; have BK176 := n2_; have BK184 := n3_; have BK201 := n4_; have HB := n5_; clear n0_ n1_ n2_ n3_ n4_ n5_; have hcz84_0 : w83.cell? ⟨gb184, 0, none⟩ = some (.string (⟨#[]⟩ : ByteArray)) := (blk_cell BK184.out 0).trans rfl; have hcz84_1 : w83.cell? ⟨gb184, 1, none⟩ = some (.bool true) := (blk_cell BK184.out 1).trans rfl; have hcz84_2 : w83.cell? ⟨gb184, 2, none⟩ = some (.slice Ao76 x185002_2.length co76) := (blk_cell BK184.out 2).trans rfl; have hfz84_0 := blk_frozen BK184.out 0; have hfz84_1 := blk_frozen BK184.out 1; have hfz84_2 := blk_frozen BK184.out 2; have hcz85_0 : w83.cell? ⟨gb201, 0, none⟩ = some (.string t195) := (blk_cell BK201.out 0).trans rfl; have hcz85_1 : w83.cell? ⟨gb201, 1, none⟩ = some (.bool t196) := (blk_cell BK201.out 1).trans rfl; have hcz85_2 : w83.cell? ⟨gb201, 2, none⟩ = some (.slice Ao82 t197.length co82) := (blk_cell BK201.out 2).trans rfl; have hfz85_0 := blk_frozen BK201.out 0; have hfz85_1 := blk_frozen BK201.out 1; have hfz85_2 := blk_frozen BK201.out 2) | ((with_reducible refine gate_builtin (b := .append) (xs := #[.tmp 113, .tmp 115]) rfl ?_); at_builtin; refine Kd.R_append k43 (w0 := w) w.heap.size rfl (.tmp 113) (.tmp 115) 41 43 (.agg #[(.string ⟨#[]⟩), (.bool false), (.slice none 0 0)]) 48 rfl Try.underlying41 info43 rfl (by decide) (by omega) (.slice Ao76 x185002_2.length co76) x185002_2 (⟨t195, t196, t197⟩ : S43) [.string t195, .bool t196, .slice Ao82 t197.length co82] (fun k_ => k_ ≠ gb176 ∧ k_ ≠ gb184 ∧ k_ ≠ gb201) (fun k_ => ((fun k_ => k_ ≠ gb176 ∧ k_ ≠ gb184 ∧ k_ ≠ gb201)) k_ ∧ some k_ ≠ (.slice Ao76 x185002_2.length co76 : Value).ownBlock) rfl rfl ?aP (fun _ hk => hk) ?aF ?aO ?aB ?aS ?aL ?_; (case aP => exact k43_mkM _ _ _ (⟨t195, t196, t197⟩ : S43) (Kd.R_mono (HO199.out) (fun k_ hk => ⟨⟨hk.2.1, ⟨hk.2.2.1, hk.2.2.2⟩⟩, hk.1⟩))); (case aB => exact (by repeat (first | (with_reducible first | exact HB.out | apply below_alloc | apply pw_below_drewN | apply below_drew1 | refine below_set ?_ GE176.out | refine below_set ?_ GE184.out | refine below_set ?_ GE201.out) | exact HB.out))); (case aF => exact (fun k_ hk => ⟨Kd.freshB (g := gb176) (o := .cells #[.string x177000_2, .bool x177001_2, .slice none 0 0] 43 (0, 0)) (by (with_reducible repeat (first | refine blk_drewN ?_ _ | refine blk_drew ?_ | refine blk_alloc ?_ _)); exact BK176.out) k_ hk, Kd.freshB (g := gb184) (o := .cells #[.string (⟨#[]⟩ : ByteArray), .bool true, .slice Ao76 x185002_2.length co76] 43 (0, 0)) (by (with_reducible repeat (first | refine blk_drewN ?_ _ | refine blk_drew ?_ | refine blk_alloc ?_ _)); exact BK184.out) k_ hk, Kd.freshB (g := gb201) (o := .cells #[.string t195, .bool t196, .slice Ao82 t197.length co82] 43 (0, 0)) (by (with_reducible repeat (first | refine blk_drewN ?_ _ | refine blk_drew ?_ | refine blk_alloc ?_ _)); exact BK201.out) k_ hk⟩)); (case aO => exact (by (with_reducible repeat (first | apply Kd.R_alloc | apply Kd.R_drewN | apply Kd.R_drew)); exact Kd.R_mono HO_185002.out (fun _ hk => ⟨hk.2.1, ⟨hk.2.2.1, hk.2.2.2⟩⟩))); (case aS => exact (below_size (by repeat (first | (with_reducible first | exact HB.out | apply below_alloc | apply pw_below_drewN | apply below_drew1 | refine below_set ?_ GE176.out | refine below_set ?_ GE184.out | refine below_set ?_ GE201.out) | exact HB.out)))); (case aL => have := LMc73.out; omega); intro v203 w86 ho hb hg hat; rw [← Ny202.out] at ho; have n0_ := Aside0.mk (blk_grown (g := gb176) (o := .cells #[.string x177000_2, .bool x177001_2, .slice none 0 0] 43 (0, 0)) (by (with_reducible repeat (first | refine blk_drewN ?_ _ | refine blk_drew ?_ | refine blk_alloc ?_ _)); exact BK176.out) hg (Kd.R_away HO_185002.out (fun _ hk => hk.2.1))); have n1_ := Aside0.mk (blk_grown (g := gb184) (o := .cells #[.string (⟨#[]⟩ : ByteArray), .bool true, .slice Ao76 x185002_2.length co76] 43 (0, 0)) (by (with_reducible repeat (first | refine blk_drewN ?_ _ | refine blk_drew ?_ | refine blk_alloc ?_ _)); exact BK184.out) hg (Kd.R_away HO_185002.out (fun _ hk => hk.2.2.1))); have n2_ := Aside0.mk (blk_grown (g := gb201) (o := .cells #[.string t195, .bool t196, .slice Ao82 t197.length co82] 43 (0, 0)) (by (with_reducible repeat (first | refine blk_drewN ?_ _ | refine blk_drew ?_ | refine blk_alloc ?_ _)); exact BK201.out) hg (Kd.R_away HO_185002.out (fun _ hk => hk.2.2.2))); have n3_ := Aside0.mk (hb); have n4_ := Aside0.mk (ho); clear BK176; clear BK184; clear BK201; clear HB; clear HO_185002; clear HO199; have BK176 := n0_; have BK184 := n1_; have BK201 := n2_; have HB := n3_; have HO204 := n4_; clear n0_ n1_ n2_ n3_ n4_; clear ho hb hg hat; obtain ⟨Ao87, co87, eo87⟩ := Kd.R_slice HO204.out; subst eo87; have hcz88_0 : w86.cell? ⟨gb184, 0, none⟩ = some (.string (⟨#[]⟩ : ByteArray)) := (blk_cell BK184.out 0).trans rfl; have hcz88_1 : w86.cell? ⟨gb184, 1, none⟩ = some (.bool true) := (blk_cell BK184.out 1).trans rfl; have hcz88_2 : w86.cell? ⟨gb184, 2, none⟩ = some (.slice Ao76 x185002_2.length co76) := (blk_cell BK184.out 2).trans rfl; have hfz88_0 := blk_frozen BK184.out 0; have hfz88_1 := blk_frozen BK184.out 1; have hfz88_2 := blk_frozen BK184.out 2))
                                go_roundg kj18
                                case measure => have := HJ3.out; have := HK2.out; have := HJ18.out; omega
                                case rel => exact ⟨(t200), (x177000_2), (x177001_2), (y202), (.slice Ao87 y202.length co87), (by first | rfl | (simp; done) | (simp [*]; done)), H', ⟨by have := HJ3.out; have := HK2.out; have := HJ18.out; omega⟩, ⟨by (with_reducible repeat (first | apply Kd.R_alloc | apply Kd.R_drewN | apply Kd.R_drew)); exact Kd.R_mono (Kd.R_far (p := ⟨gb184, 2, none⟩) (Kd.R_mono HO204.out (fun k_ hk => (⟨hk, hk.2.1⟩ : _ ∧ k_ ≠ gb184))) (fun _ hk => hk.2) (.slice Ao87 y202.length co87)) (fun _ hk => ⟨hk.1.1, hk.1.2.1⟩)⟩, ⟨by (with_reducible repeat (first | refine blk_drewN ?_ _ | refine blk_drew ?_ | refine blk_alloc ?_ _)); refine blk_far ?_ NB176_184.out _; (with_reducible repeat (first | refine blk_drewN ?_ _ | refine blk_drew ?_ | refine blk_alloc ?_ _)); exact BK176.out⟩, ⟨by (with_reducible repeat (first | refine blk_drewN ?_ _ | refine blk_drew ?_ | refine blk_alloc ?_ _)); refine blk_put (cs := #[.string (⟨#[]⟩ : ByteArray), .bool true, .slice Ao76 x185002_2.length co76]) ?_ 2 _ rfl; (with_reducible repeat (first | refine blk_drewN ?_ _ | refine blk_drew ?_ | refine blk_alloc ?_ _)); exact BK184.out⟩, ⟨by repeat (first | (with_reducible first | exact HB.out | apply below_alloc | apply pw_below_drewN | apply below_drew1 | refine below_set ?_ GE176.out | refine below_set ?_ GE184.out | refine below_set ?_ GE201.out) | exact HB.out)⟩⟩
                              · rw [if_neg c73] at H
                                exact absurd H (by simp)
                        · replace c23 := Bool.eq_false_iff.mpr c23
                          subst c23
                          have H1 : (if x1_2 ≥ (a0.size : Int) then (some ((⟨#[]⟩ : ByteArray), false, ([] : List (S43)), (-1))) else (some ((⟨#[]⟩ : ByteArray), true, x185002_2, wrap64 (x1_2 + 1)))) = some (r1, r2, r3, r4) := by rw [if_neg (show ¬ (false = true) by decide)] at H; exact H
                          clear H
                          have H := H1
                          clear H1
                          by_cases c89 : x1_2 ≥ (a0.size : Int)
                          · rw [if_pos c89] at H
                            have c89b0 : decide ((a0.size : Int) ≤ x1_2) = true := decide_eq_true c89
                            clear c89
                            simp only [Option.some.injEq, Prod.mk.injEq] at H
                            obtain ⟨rfl, rfl, rfl, rfl⟩ := H
                            have hnb90 := NB176_184.out
                            have hnc90 := NB184_176.out
                            have hcz91_0 : wc.cell? ⟨gb176, 0, none⟩ = some (.string x177000_2) := (blk_cell BK176.out 0).trans rfl
                            have hcz91_1 : wc.cell? ⟨gb176, 1, none⟩ = some (.bool x177001_2) := (blk_cell BK176.out 1).trans rfl
                            have hcz91_2 : wc.cell? ⟨gb176, 2, none⟩ = some (.slice none 0 0) := (blk_cell BK176.out 2).trans rfl
                            have hfz91_0 := blk_frozen BK176.out 0
                            have hfz91_1 := blk_frozen BK176.out 1
                            have hfz91_2 := blk_frozen BK176.out 2
                            go_wp2
                            refine bodyPost_ret (results_ct rfl _ _ gb176 43 #[.string (⟨#[]⟩ : ByteArray), .bool false, .slice none 0 0] (0, 0) _ rfl (by (with_reducible repeat (first | refine blk_drewN ?_ _ | refine blk_drew ?_ | refine blk_alloc ?_ _)); refine blk_put (cs := #[.string (⟨#[]⟩ : ByteArray), .bool false, .slice none 0 0]) ?_ 2 _ rfl; (with_reducible repeat (first | refine blk_drewN ?_ _ | refine blk_drew ?_ | refine blk_alloc ?_ _)); refine blk_put (cs := #[.string (⟨#[]⟩ : ByteArray), .bool x177001_2, .slice none 0 0]) ?_ 1 _ rfl; (with_reducible repeat (first | refine blk_drewN ?_ _ | refine blk_drew ?_ | refine blk_alloc ?_ _)); refine blk_put (cs := #[.string x177000_2, .bool x177001_2, .slice none 0 0]) ?_ 0 _ rfl; (with_reducible repeat (first | refine blk_drewN ?_ _ | refine blk_drew ?_ | refine blk_alloc ?_ _)); exact BK176.out) Try.underlying43 rfl (by kernel_rfl)) rfl ?_
                            exact ⟨_, by first | rfl | (simp [errW_none, errW_some] <;> rfl) | (simp [*, errW_none, errW_some] <;> rfl), by first | exact Kd.R_nil _ _ _ _ _ | exact Kd.N_nil _ _ _ _ _ | exact Kd.V_nil _ _ _ _ _ | exact Kd.Q_nil _ _ _ _ _ | exact Kd.S_nil _ _ _ _ _, by repeat (first | (with_reducible first | exact HB.out | apply below_alloc | apply pw_below_drewN | apply below_drew1 | refine below_set ?_ GE176.out | refine below_set ?_ GE184.out) | exact HB.out)⟩
                          · rw [if_neg c89] at H
                            have c89b0 : decide ((a0.size : Int) ≤ x1_2) = false := decide_eq_false c89
                            clear c89
                            simp only [Option.some.injEq, Prod.mk.injEq] at H
                            obtain ⟨rfl, rfl, rfl, rfl⟩ := H
                            have hnb92 := NB184_176.out
                            have hnc92 := NB176_184.out
                            have hcz93_0 : wc.cell? ⟨gb184, 0, none⟩ = some (.string (⟨#[]⟩ : ByteArray)) := (blk_cell BK184.out 0).trans rfl
                            have hcz93_1 : wc.cell? ⟨gb184, 1, none⟩ = some (.bool true) := (blk_cell BK184.out 1).trans rfl
                            have hcz93_2 : wc.cell? ⟨gb184, 2, none⟩ = some (u185002) := (blk_cell BK184.out 2).trans rfl
                            have hfz93_0 := blk_frozen BK184.out 0
                            have hfz93_1 := blk_frozen BK184.out 1
                            have hfz93_2 := blk_frozen BK184.out 2
                            have hcz94_0 : wc.cell? ⟨gb176, 0, none⟩ = some (.string x177000_2) := (blk_cell BK176.out 0).trans rfl
                            have hcz94_1 : wc.cell? ⟨gb176, 1, none⟩ = some (.bool x177001_2) := (blk_cell BK176.out 1).trans rfl
                            have hcz94_2 : wc.cell? ⟨gb176, 2, none⟩ = some (.slice none 0 0) := (blk_cell BK176.out 2).trans rfl
                            have hfz94_0 := blk_frozen BK176.out 0
                            have hfz94_1 := blk_frozen BK176.out 1
                            have hfz94_2 := blk_frozen BK176.out 2
                            obtain ⟨Ao95, co95, eo95⟩ := Kd.R_slice HO_185002.out
                            subst eo95
                            go_wp2
                            refine bodyPost_ret (results_ct rfl _ _ gb176 43 #[.string (⟨#[]⟩ : ByteArray), .bool true, .slice Ao95 x185002_2.length co95] (0, 0) _ rfl (by (with_reducible repeat (first | refine blk_drewN ?_ _ | refine blk_drew ?_ | refine blk_alloc ?_ _)); refine blk_put (cs := #[.string (⟨#[]⟩ : ByteArray), .bool true, .slice none 0 0]) ?_ 2 _ rfl; (with_reducible repeat (first | refine blk_drewN ?_ _ | refine blk_drew ?_ | refine blk_alloc ?_ _)); refine blk_put (cs := #[.string (⟨#[]⟩ : ByteArray), .bool x177001_2, .slice none 0 0]) ?_ 1 _ rfl; (with_reducible repeat (first | refine blk_drewN ?_ _ | refine blk_drew ?_ | refine blk_alloc ?_ _)); refine blk_put (cs := #[.string x177000_2, .bool x177001_2, .slice none 0 0]) ?_ 0 _ rfl; (with_reducible repeat (first | refine blk_drewN ?_ _ | refine blk_drew ?_ | refine blk_alloc ?_ _)); exact BK176.out) Try.underlying43 rfl (by kernel_rfl)) rfl ?_
                            exact ⟨_, by first | rfl | (simp [errW_none, errW_some] <;> rfl) | (simp [*, errW_none, errW_some] <;> rfl), by (with_reducible repeat (first | apply Kd.R_alloc | apply Kd.R_drewN | apply Kd.R_drew)); exact Kd.R_mono (Kd.R_far (p := ⟨gb176, 2, none⟩) (Kd.R_far (p := ⟨gb176, 1, none⟩) (Kd.R_far (p := ⟨gb176, 0, none⟩) (Kd.R_mono HO_185002.out (fun k_ hk => (⟨hk, hk.1⟩ : _ ∧ k_ ≠ gb176))) (fun _ hk => hk.2) (.string (⟨#[]⟩ : ByteArray))) (fun _ hk => hk.2) (.bool true)) (fun _ hk => hk.2) (.slice Ao95 x185002_2.length co95)) (fun _ hk => trivial), by repeat (first | (with_reducible first | exact HB.out | apply below_alloc | apply pw_below_drewN | apply below_drew1 | refine below_set ?_ GE176.out | refine below_set ?_ GE184.out) | exact HB.out)⟩
              · rw [if_neg c15] at H
                have c15b0 : ((bt a0 a1) == 40) = false := beq_eq_false_iff_ne.mpr c15
                have c15b1 : ((bt a0 a1) != 40) = true := bne_iff_ne.mpr c15
                have H' := Aside0.mk H
                clear H
                have p11 : 0 ≤ (a1 : Int) := of_decide_eq_true (by first | (with_reducible assumption) | assumption)
                have q11 : a1 < (a0.size : Int) := of_decide_eq_true (by first | (with_reducible assumption) | assumption)
                have hx11 := bt_at a0 a1
                replace p11 := eq_true p11
                replace q11 := eq_true q11
                have p14 : 0 ≤ (a1 : Int) := of_decide_eq_true (by first | (with_reducible assumption) | assumption)
                have q14 : a1 < (a0.size : Int) := of_decide_eq_true (by first | (with_reducible assumption) | assumption)
                have hx14 := bt_at a0 a1
                replace p14 := eq_true p14
                replace q14 := eq_true q14
                go_wp2
                go_loopg [1, 8] kj3 (fun kq v1 v8 w' => ∃ (x1_2 : Int) (x8_2 : List Int), v1 = .int .i64 x1_2 ∧ Aside0 (hatchwayref08_parse.l0 kq a0 x1_2 x8_2 = some (r1, r2, r3, r4)) ∧ Aside0 (kq ≤ kj3) ∧ Aside0 (Kd.R (Kd.int .u8) 5 w' w.heap.size (fun _ => True) v8 x8_2) ∧ Aside0 (w'.heap[gb176]? = some (.cells #[.string (⟨#[]⟩ : ByteArray), .bool false, (.slice none 0 0)] 43 (0, 0))) ∧ Aside0 (Below w.heap.size w w'))
                case atStart => exact ⟨(a1), (([] : List Int)), (by first | rfl | (simp; done) | (simp [*]; done)), H', ⟨Nat.le_refl _⟩, ⟨by first | exact Kd.R_nil _ _ _ _ _ | exact Kd.N_nil _ _ _ _ _ | exact Kd.V_nil _ _ _ _ _ | exact Kd.Q_nil _ _ _ _ _ | exact Kd.S_nil _ _ _ _ _⟩, ⟨by (with_reducible repeat (first | refine blk_drewN ?_ _ | refine blk_drew ?_ | refine blk_alloc ?_ _)); exact BK176.out⟩, ⟨by repeat (first | (with_reducible first | exact HB.out | apply below_alloc | apply pw_below_drewN | apply below_drew1 | refine below_set ?_ GE176.out) | exact HB.out)⟩⟩
                case round =>
                  clear H'
                  try clear c1
                  try clear p1
                  try clear q1
                  try clear hx1
                  try clear c2
                  try clear p2
                  try clear q2
                  try clear hx2
                  try clear c3
                  try clear c4
                  try clear c5
                  try clear c6
                  try clear c6b0
                  try clear p6
                  try clear c7
                  try clear c8
                  try clear c9
                  try clear c9b0
                  try clear c10
                  try clear c10b0
                  try clear p11
                  try clear q11
                  try clear hx11
                  try clear c12
                  try clear c12b0
                  try clear c12b1
                  try clear p14
                  try clear q14
                  try clear hx14
                  try clear c15
                  try clear c15b0
                  try clear c15b1
                  try clear c17
                  try clear c20
                  try clear c20b0
                  try clear c21
                  try clear c21b0
                  try clear p22
                  try clear q22
                  try clear hx22
                  try clear c23
                  try clear c24
                  try clear c24b0
                  try clear c24b1
                  try clear c25
                  try clear c25b0
                  try clear c26
                  try clear c26b0
                  try clear p27
                  try clear q27
                  try clear hx27
                  try clear c28
                  try clear c28b0
                  try clear c28b1
                  try clear c30
                  try clear c30b0
                  try clear c31
                  try clear c36
                  try clear c37
                  try clear c41
                  try clear c42
                  try clear c47
                  try clear c48
                  try clear c57
                  try clear c62
                  try clear c62b0
                  try clear c63
                  try clear p64
                  try clear c68
                  try clear c69
                  try clear c73
                  try clear c74
                  try clear c79
                  try clear c80
                  try clear c89
                  try clear c89b0
                  try clear c90
                  try clear c92
                  try clear hcz13_0
                  try clear hcz13_1
                  try clear hcz13_2
                  try clear hcz18_0
                  try clear hcz18_1
                  try clear hcz18_2
                  try clear hcz32_0
                  try clear hcz32_1
                  try clear hcz32_2
                  try clear hcz38_0
                  try clear hcz38_1
                  try clear hcz38_2
                  try clear hcz40_0
                  try clear hcz40_1
                  try clear hcz40_2
                  try clear hcz43_0
                  try clear hcz43_1
                  try clear hcz43_2
                  try clear hcz49_0
                  try clear hcz49_1
                  try clear hcz49_2
                  try clear hcz52_0
                  try clear hcz52_1
                  try clear hcz52_2
                  try clear hcz53_0
                  try clear hcz53_1
                  try clear hcz53_2
                  try clear hcz56_0
                  try clear hcz56_1
                  try clear hcz56_2
                  try clear hcz58_0
                  try clear hcz58_1
                  try clear hcz58_2
                  try clear hcz60_0
                  try clear hcz60_1
                  try clear hcz60_2
                  try clear hcz64_0
                  try clear hcz64_1
                  try clear hcz64_2
                  try clear hcz70_0
                  try clear hcz70_1
                  try clear hcz70_2
                  try clear hcz72_0
                  try clear hcz72_1
                  try clear hcz72_2
                  try clear hcz75_0
                  try clear hcz75_1
                  try clear hcz75_2
                  try clear hcz81_0
                  try clear hcz81_1
                  try clear hcz81_2
                  try clear hcz84_0
                  try clear hcz84_1
                  try clear hcz84_2
                  try clear hcz85_0
                  try clear hcz85_1
                  try clear hcz85_2
                  try clear hcz88_0
                  try clear hcz88_1
                  try clear hcz88_2
                  try clear hcz8_0
                  try clear hcz8_1
                  try clear hcz8_2
                  try clear hcz91_0
                  try clear hcz91_1
                  try clear hcz91_2
                  try clear hcz93_0
                  try clear hcz93_1
                  try clear hcz93_2
                  try clear hcz94_0
                  try clear hcz94_1
                  try clear hcz94_2
                  try clear hfz13_0
                  try clear hfz13_1
                  try clear hfz13_2
                  try clear hfz18_0
                  try clear hfz18_1
                  try clear hfz18_2
                  try clear hfz32_0
                  try clear hfz32_1
                  try clear hfz32_2
                  try clear hfz38_0
                  try clear hfz38_1
                  try clear hfz38_2
                  try clear hfz40_0
                  try clear hfz40_1
                  try clear hfz40_2
                  try clear hfz43_0
                  try clear hfz43_1
                  try clear hfz43_2
                  try clear hfz49_0
                  try clear hfz49_1
                  try clear hfz49_2
                  try clear hfz52_0
                  try clear hfz52_1
                  try clear hfz52_2
                  try clear hfz53_0
                  try clear hfz53_1
                  try clear hfz53_2
                  try clear hfz56_0
                  try clear hfz56_1
                  try clear hfz56_2
                  try clear hfz58_0
                  try clear hfz58_1
                  try clear hfz58_2
                  try clear hfz60_0
                  try clear hfz60_1
                  try clear hfz60_2
                  try clear hfz64_0
                  try clear hfz64_1
                  try clear hfz64_2
                  try clear hfz70_0
                  try clear hfz70_1
                  try clear hfz70_2
                  try clear hfz72_0
                  try clear hfz72_1
                  try clear hfz72_2
                  try clear hfz75_0
                  try clear hfz75_1
                  try clear hfz75_2
                  try clear hfz81_0
                  try clear hfz81_1
                  try clear hfz81_2
                  try clear hfz84_0
                  try clear hfz84_1
                  try clear hfz84_2
                  try clear hfz85_0
                  try clear hfz85_1
                  try clear hfz85_2
                  try clear hfz88_0
                  try clear hfz88_1
                  try clear hfz88_2
                  try clear hfz8_0
                  try clear hfz8_1
                  try clear hfz8_2
                  try clear hfz91_0
                  try clear hfz91_1
                  try clear hfz91_2
                  try clear hfz93_0
                  try clear hfz93_1
                  try clear hfz93_2
                  try clear hfz94_0
                  try clear hfz94_1
                  try clear hfz94_2
                  try clear p1
                  try clear p11
                  try clear p14
                  try clear p2
                  try clear p22
                  try clear p27
                  try clear p6
                  try clear q1
                  try clear q11
                  try clear q14
                  try clear q2
                  try clear q22
                  try clear q27
                  obtain ⟨x1_2, x8_2, rfl, HA, HK2, HO_8, BK176, HB⟩ := hrel
                  cases gk with
                  | zero => exact absurd HA.out (by simp [hatchwayref08_parse.l0])
                  | succ k2 =>
                    have H := HA.out
                    clear HA
                    simp only [hatchwayref08_parse.l0] at H
                    have HC96 := Aside0.mk H
                    clear H
                    go_upto_region 7 with (fail)
                    go_cut [51] (fun v51 wc => ∃ (kq : Nat) (x51_95 : Bool), v51 = .bool x51_95 ∧ Aside0 (hatchwayref08_parse.j2 kq a0 x1_2 x8_2 x51_95 = some (r1, r2, r3, r4)) ∧ Aside0 (kq ≤ k2) ∧ Aside0 (Kd.R (Kd.int .u8) 5 wc w.heap.size (fun _ => True) u8 x8_2) ∧ Aside0 (wc.heap[gb176]? = some (.cells #[.string (⟨#[]⟩ : ByteArray), .bool false, (.slice none 0 0)] 43 (0, 0))) ∧ Aside0 (Below w.heap.size w wc))
                    case first =>
                      have H := HC96.out
                      clear HC96
                      by_cases c97 : (wrap64 (x1_2 + 1)) < (a0.size : Int)
                      · rw [if_pos c97] at H
                        have c97b0 : decide ((wrap64 (x1_2 + 1)) < (a0.size : Int)) = true := decide_eq_true c97
                        clear c97
                        (first | rw [c97b0] | (simp only [i64_w, i32_w]; rw [c97b0]) | skip)
                        by_cases c98 : 0 ≤ x1_2
                        · rw [if_pos c98] at H
                          have c98b0 : decide (0 ≤ x1_2) = true := decide_eq_true c98
                          clear c98
                          by_cases c99 : x1_2 < (a0.size : Int)
                          · rw [if_pos c99] at H
                            have c99b0 : decide (x1_2 < (a0.size : Int)) = true := decide_eq_true c99
                            clear c99
                            replace H := Option.bind_eq_some_iff.mp H
                            obtain ⟨t177, A1010, H⟩ := H
                            replace H : (if t177 ≥ 0 then (if 0 ≤ (wrap64 (x1_2 + 1)) then ((hatchwayref08_digit.f k2 (bt a0 (wrap64 (x1_2 + 1)))).bind fun t178 => (hatchwayref08_parse.j2 k2 a0 x1_2 x8_2 (decide (t178 ≥ 0)))) else (none)) else (hatchwayref08_parse.j2 k2 a0 x1_2 x8_2 false)) = some (r1, r2, r3, r4) := H
                            have A101 := Aside0.mk A1010
                            clear A1010
                            by_cases c102 : t177 ≥ 0
                            · rw [if_pos c102] at H
                              have c102b0 : decide (0 ≤ t177) = true := decide_eq_true c102
                              clear c102
                              obtain ⟨ji103, hji103⟩ : ∃ j_ : Int, (wrap64 (x1_2 + 1)) = j_ := ⟨_, rfl⟩
                              replace H : (if 0 ≤ (ji103) then ((hatchwayref08_digit.f k2 (bt a0 (ji103))).bind fun t178 => (hatchwayref08_parse.j2 k2 a0 x1_2 x8_2 (decide (t178 ≥ 0)))) else (none)) = some (r1, r2, r3, r4) := by first | (rw [hji103] at H; exact H) | (simp only [hji103] at H ⊢; exact H)
                              (try rw [hji103] at c97b0)
                              (try rw [hji103] at A101)
                              have hji103w : (IntKind.i64.wrap (x1_2 + 1)) = ji103 := (i64_w _).trans hji103
                              by_cases c104 : 0 ≤ (ji103)
                              · rw [if_pos c104] at H
                                have c104b0 : decide (0 ≤ (ji103)) = true := decide_eq_true c104
                                clear c104
                                replace H := Option.bind_eq_some_iff.mp H
                                obtain ⟨t178, A1060, H⟩ := H
                                replace H : (hatchwayref08_parse.j2 k2 a0 x1_2 x8_2 (decide (t178 ≥ 0))) = some (r1, r2, r3, r4) := H
                                have A106 := Aside0.mk A1060
                                clear A1060
                                have H' := Aside0.mk H
                                clear H
                                have p100 : 0 ≤ (x1_2 : Int) := of_decide_eq_true (by first | (with_reducible assumption) | assumption)
                                have q100 : x1_2 < (a0.size : Int) := of_decide_eq_true (by first | (with_reducible assumption) | assumption)
                                have hx100 := bt_at a0 x1_2
                                replace p100 := eq_true p100
                                replace q100 := eq_true q100
                                go_wp2_with (first | (go_at_call 53; (with_reducible refine (hatchwayref08_digit.calls k2 (bt a0 x1_2) t177 _ A101.out).mono ?_); rintro e w' ⟨rfl, ⟨nd, rfl⟩⟩; have p105 : 0 ≤ ((ji103) : Int) := of_decide_eq_true (by first | (with_reducible assumption) | assumption); have q105 : (ji103) < (a0.size : Int) := of_decide_eq_true (by first | (with_reducible assumption) | assumption); have hx105 := bt_at a0 (ji103); replace p105 := eq_true p105; replace q105 := eq_true q105) | (go_at_call 53; (with_reducible refine (hatchwayref08_digit.calls k2 (bt a0 (ji103)) t178 _ A106.out).mono ?_); rintro e w' ⟨rfl, ⟨nd, rfl⟩⟩))
                                go_meet
                                case rel => exact ⟨_, (decide (t178 ≥ 0)), (by first | rfl | (simp; done) | (simp [*]; done)), H', ⟨by have := HJ3.out; have := HK2.out; first | omega | exact Nat.le_refl _⟩, ⟨by (with_reducible repeat (first | apply Kd.R_alloc | apply Kd.R_drewN | apply Kd.R_drew)); exact HO_8.out⟩, ⟨by (with_reducible repeat (first | refine blk_drewN ?_ _ | refine blk_drew ?_ | refine blk_alloc ?_ _)); exact BK176.out⟩, ⟨by repeat (first | (with_reducible first | exact HB.out | apply below_alloc | apply pw_below_drewN | apply below_drew1 | refine below_set ?_ GE176.out) | exact HB.out)⟩⟩
                              · rw [if_neg c104] at H
                                exact absurd H (by simp)
                            · rw [if_neg c102] at H
                              have c102b0 : decide (0 ≤ t177) = false := decide_eq_false c102
                              clear c102
                              have H' := Aside0.mk H
                              clear H
                              have p100 : 0 ≤ (x1_2 : Int) := of_decide_eq_true (by first | (with_reducible assumption) | assumption)
                              have q100 : x1_2 < (a0.size : Int) := of_decide_eq_true (by first | (with_reducible assumption) | assumption)
                              have hx100 := bt_at a0 x1_2
                              replace p100 := eq_true p100
                              replace q100 := eq_true q100
                              go_wp2_with (first | (go_at_call 53; (with_reducible refine (hatchwayref08_digit.calls k2 (bt a0 x1_2) t177 _ A101.out).mono ?_); rintro e w' ⟨rfl, ⟨nd, rfl⟩⟩))
                              go_meet
                              case rel => exact ⟨_, (false), (by first | rfl | (simp; done) | (simp [*]; done)), H', ⟨by have := HJ3.out; have := HK2.out; first | omega | exact Nat.le_refl _⟩, ⟨by (with_reducible repeat (first | apply Kd.R_alloc | apply Kd.R_drewN | apply Kd.R_drew)); exact HO_8.out⟩, ⟨by (with_reducible repeat (first | refine blk_drewN ?_ _ | refine blk_drew ?_ | refine blk_alloc ?_ _)); exact BK176.out⟩, ⟨by repeat (first | (with_reducible first | exact HB.out | apply below_alloc | apply pw_below_drewN | apply below_drew1 | refine below_set ?_ GE176.out) | exact HB.out)⟩⟩
                          · rw [if_neg c99] at H
                            exact absurd H (by simp)
                        · rw [if_neg c98] at H
                          exact absurd H (by simp)
                      · rw [if_neg c97] at H
                        have c97b0 : decide ((wrap64 (x1_2 + 1)) < (a0.size : Int)) = false := decide_eq_false c97
                        clear c97
                        (first | rw [c97b0] | (simp only [i64_w, i32_w]; rw [c97b0]) | skip)
                        have H' := Aside0.mk H
                        clear H
                        go_wp2
                        go_meet
                        case rel => exact ⟨_, (false), (by first | rfl | (simp; done) | (simp [*]; done)), H', ⟨by have := HJ3.out; have := HK2.out; first | omega | exact Nat.le_refl _⟩, ⟨by (with_reducible repeat (first | apply Kd.R_alloc | apply Kd.R_drewN | apply Kd.R_drew)); exact HO_8.out⟩, ⟨by (with_reducible repeat (first | refine blk_drewN ?_ _ | refine blk_drew ?_ | refine blk_alloc ?_ _)); exact BK176.out⟩, ⟨by repeat (first | (with_reducible first | exact HB.out | apply below_alloc | apply pw_below_drewN | apply below_drew1 | refine below_set ?_ GE176.out) | exact HB.out)⟩⟩
                    case rest =>
                      clear HC96
                      try clear c1
                      try clear p1
                      try clear q1
                      try clear hx1
                      try clear c2
                      try clear p2
                      try clear q2
                      try clear hx2
                      try clear c3
                      try clear c4
                      try clear c5
                      try clear c6
                      try clear c6b0
                      try clear p6
                      try clear c7
                      try clear c8
                      try clear c9
                      try clear c9b0
                      try clear c10
                      try clear c10b0
                      try clear p10
                      try clear q10
                      try clear hx10
                      try clear p11
                      try clear q11
                      try clear hx11
                      try clear c12
                      try clear c12b0
                      try clear c12b1
                      try clear p14
                      try clear q14
                      try clear hx14
                      try clear c15
                      try clear c15b0
                      try clear c15b1
                      try clear c17
                      try clear c20
                      try clear c20b0
                      try clear c21
                      try clear c21b0
                      try clear p22
                      try clear q22
                      try clear hx22
                      try clear c23
                      try clear c24
                      try clear c24b0
                      try clear c24b1
                      try clear c25
                      try clear c25b0
                      try clear c26
                      try clear c26b0
                      try clear p27
                      try clear q27
                      try clear hx27
                      try clear c28
                      try clear c28b0
                      try clear c28b1
                      try clear c30
                      try clear c30b0
                      try clear c31
                      try clear c36
                      try clear c37
                      try clear c41
                      try clear c42
                      try clear c47
                      try clear c48
                      try clear c57
                      try clear c62
                      try clear c62b0
                      try clear c63
                      try clear p64
                      try clear c68
                      try clear c69
                      try clear c73
                      try clear c74
                      try clear c79
                      try clear c80
                      try clear c89
                      try clear c89b0
                      try clear c90
                      try clear c92
                      try clear c97
                      try clear c97b0
                      try clear c98
                      try clear c98b0
                      try clear c99
                      try clear c99b0
                      try clear p100
                      try clear q100
                      try clear hx100
                      try clear c102
                      try clear c102b0
                      try clear c104
                      try clear c104b0
                      try clear p105
                      try clear q105
                      try clear hx105
                      try clear hcz13_0
                      try clear hcz13_1
                      try clear hcz13_2
                      try clear hcz18_0
                      try clear hcz18_1
                      try clear hcz18_2
                      try clear hcz32_0
                      try clear hcz32_1
                      try clear hcz32_2
                      try clear hcz38_0
                      try clear hcz38_1
                      try clear hcz38_2
                      try clear hcz40_0
                      try clear hcz40_1
                      try clear hcz40_2
                      try clear hcz43_0
                      try clear hcz43_1
                      try clear hcz43_2
                      try clear hcz49_0
                      try clear hcz49_1
                      try clear hcz49_2
                      try clear hcz52_0
                      try clear hcz52_1
                      try clear hcz52_2
                      try clear hcz53_0
                      try clear hcz53_1
                      try clear hcz53_2
                      try clear hcz56_0
                      try clear hcz56_1
                      try clear hcz56_2
                      try clear hcz58_0
                      try clear hcz58_1
                      try clear hcz58_2
                      try clear hcz60_0
                      try clear hcz60_1
                      try clear hcz60_2
                      try clear hcz64_0
                      try clear hcz64_1
                      try clear hcz64_2
                      try clear hcz70_0
                      try clear hcz70_1
                      try clear hcz70_2
                      try clear hcz72_0
                      try clear hcz72_1
                      try clear hcz72_2
                      try clear hcz75_0
                      try clear hcz75_1
                      try clear hcz75_2
                      try clear hcz81_0
                      try clear hcz81_1
                      try clear hcz81_2
                      try clear hcz84_0
                      try clear hcz84_1
                      try clear hcz84_2
                      try clear hcz85_0
                      try clear hcz85_1
                      try clear hcz85_2
                      try clear hcz88_0
                      try clear hcz88_1
                      try clear hcz88_2
                      try clear hcz8_0
                      try clear hcz8_1
                      try clear hcz8_2
                      try clear hcz91_0
                      try clear hcz91_1
                      try clear hcz91_2
                      try clear hcz93_0
                      try clear hcz93_1
                      try clear hcz93_2
                      try clear hcz94_0
                      try clear hcz94_1
                      try clear hcz94_2
                      try clear hfz13_0
                      try clear hfz13_1
                      try clear hfz13_2
                      try clear hfz18_0
                      try clear hfz18_1
                      try clear hfz18_2
                      try clear hfz32_0
                      try clear hfz32_1
                      try clear hfz32_2
                      try clear hfz38_0
                      try clear hfz38_1
                      try clear hfz38_2
                      try clear hfz40_0
                      try clear hfz40_1
                      try clear hfz40_2
                      try clear hfz43_0
                      try clear hfz43_1
                      try clear hfz43_2
                      try clear hfz49_0
                      try clear hfz49_1
                      try clear hfz49_2
                      try clear hfz52_0
                      try clear hfz52_1
                      try clear hfz52_2
                      try clear hfz53_0
                      try clear hfz53_1
                      try clear hfz53_2
                      try clear hfz56_0
                      try clear hfz56_1
                      try clear hfz56_2
                      try clear hfz58_0
                      try clear hfz58_1
                      try clear hfz58_2
                      try clear hfz60_0
                      try clear hfz60_1
                      try clear hfz60_2
                      try clear hfz64_0
                      try clear hfz64_1
                      try clear hfz64_2
                      try clear hfz70_0
                      try clear hfz70_1
                      try clear hfz70_2
                      try clear hfz72_0
                      try clear hfz72_1
                      try clear hfz72_2
                      try clear hfz75_0
                      try clear hfz75_1
                      try clear hfz75_2
                      try clear hfz81_0
                      try clear hfz81_1
                      try clear hfz81_2
                      try clear hfz84_0
                      try clear hfz84_1
                      try clear hfz84_2
                      try clear hfz85_0
                      try clear hfz85_1
                      try clear hfz85_2
                      try clear hfz88_0
                      try clear hfz88_1
                      try clear hfz88_2
                      try clear hfz8_0
                      try clear hfz8_1
                      try clear hfz8_2
                      try clear hfz91_0
                      try clear hfz91_1
                      try clear hfz91_2
                      try clear hfz93_0
                      try clear hfz93_1
                      try clear hfz93_2
                      try clear hfz94_0
                      try clear hfz94_1
                      try clear hfz94_2
                      try clear p1
                      try clear p100
                      try clear p105
                      try clear p11
                      try clear p14
                      try clear p2
                      try clear p22
                      try clear p27
                      try clear p6
                      try clear p64
                      try clear q1
                      try clear q100
                      try clear q105
                      try clear q11
                      try clear q14
                      try clear q2
                      try clear q22
                      try clear q27
                      obtain ⟨kq, x51_95, rfl, HA, HJ95, HO_8, BK176, HB⟩ := hcut
                      cases kq with
                      | zero => exact absurd HA.out (by simp [hatchwayref08_parse.j2])
                      | succ kj95 =>
                        have H := HA.out
                        clear HA
                        simp only [hatchwayref08_parse.j2] at H
                        by_cases c107 : x51_95 = true
                        · subst c107
                          have H1 : (if 0 ≤ x1_2 then (if x1_2 < (a0.size : Int) then ((hatchwayref08_digit.f kj95 (bt a0 x1_2)).bind fun t179 => (if 0 ≤ (wrap64 (x1_2 + 1)) then (if (wrap64 (x1_2 + 1)) < (a0.size : Int) then ((hatchwayref08_digit.f kj95 (bt a0 (wrap64 (x1_2 + 1)))).bind fun t180 => (if x8_2.length < 140737488355328 then (hatchwayref08_parse.l0 kj95 a0 (wrap64 (x1_2 + 2)) (x8_2 ++ [(wrap64 ((wrap64 (16 * t179)) + t180)) % 256])) else (none))) else (none)) else (none))) else (none)) else (none)) = some (r1, r2, r3, r4) := by rw [if_pos rfl] at H; exact H
                          clear H
                          have H := H1
                          clear H1
                          by_cases c108 : 0 ≤ x1_2
                          · rw [if_pos c108] at H
                            have c108b0 : decide (0 ≤ x1_2) = true := decide_eq_true c108
                            clear c108
                            by_cases c109 : x1_2 < (a0.size : Int)
                            · rw [if_pos c109] at H
                              have c109b0 : decide (x1_2 < (a0.size : Int)) = true := decide_eq_true c109
                              clear c109
                              replace H := Option.bind_eq_some_iff.mp H
                              obtain ⟨t179, A1110, H⟩ := H
                              replace H : (if 0 ≤ (wrap64 (x1_2 + 1)) then (if (wrap64 (x1_2 + 1)) < (a0.size : Int) then ((hatchwayref08_digit.f kj95 (bt a0 (wrap64 (x1_2 + 1)))).bind fun t180 => (if x8_2.length < 140737488355328 then (hatchwayref08_parse.l0 kj95 a0 (wrap64 (x1_2 + 2)) (x8_2 ++ [(wrap64 ((wrap64 (16 * t179)) + t180)) % 256])) else (none))) else (none)) else (none)) = some (r1, r2, r3, r4) := H
                              have A111 := Aside0.mk A1110
                              clear A1110
                              obtain ⟨ji112, hji112⟩ : ∃ j_ : Int, (wrap64 (x1_2 + 1)) = j_ := ⟨_, rfl⟩
                              replace H : (if 0 ≤ (ji112) then (if (ji112) < (a0.size : Int) then ((hatchwayref08_digit.f kj95 (bt a0 (ji112))).bind fun t180 => (if x8_2.length < 140737488355328 then (hatchwayref08_parse.l0 kj95 a0 (wrap64 (x1_2 + 2)) (x8_2 ++ [(wrap64 ((wrap64 (16 * t179)) + t180)) % 256])) else (none))) else (none)) else (none)) = some (r1, r2, r3, r4) := by first | (rw [hji112] at H; exact H) | (simp only [hji112] at H ⊢; exact H)
                              (try rw [hji112] at A111)
                              have hji112w : (IntKind.i64.wrap (x1_2 + 1)) = ji112 := (i64_w _).trans hji112
                              by_cases c113 : 0 ≤ (ji112)
                              · rw [if_pos c113] at H
                                have c113b0 : decide (0 ≤ (ji112)) = true := decide_eq_true c113
                                clear c113
                                by_cases c114 : (ji112) < (a0.size : Int)
                                · rw [if_pos c114] at H
                                  have c114b0 : decide ((ji112) < (a0.size : Int)) = true := decide_eq_true c114
                                  clear c114
                                  replace H := Option.bind_eq_some_iff.mp H
                                  obtain ⟨t180, A1160, H⟩ := H
                                  replace H : (if x8_2.length < 140737488355328 then (hatchwayref08_parse.l0 kj95 a0 (wrap64 (x1_2 + 2)) (x8_2 ++ [(wrap64 ((wrap64 (16 * t179)) + t180)) % 256])) else (none)) = some (r1, r2, r3, r4) := H
                                  have A116 := Aside0.mk A1160
                                  clear A1160
                                  by_cases c117 : x8_2.length < 140737488355328
                                  · rw [if_pos c117] at H
                                    have LMc117 := Aside0.mk c117
                                    clear c117
                                    obtain ⟨y181, hy181⟩ : ∃ y_ : List Int, y_ = (x8_2 ++ [(wrap64 ((wrap64 (16 * t179)) + t180)) % 256]) := ⟨_, rfl⟩
                                    replace H : (hatchwayref08_parse.l0 kj95 a0 (wrap64 (x1_2 + 2)) y181) = some (r1, r2, r3, r4) := by first | (rw [hy181]; with_reducible exact H) | (have H2_ := (Option.bind_some _ _).symm.trans H; rw [hy181]; with_reducible exact H2_) | (have H2_ := (Option.bind_some _ _).symm.trans H; with_reducible exact H2_) | with_reducible exact H | (rw [hy181]; exact H) | exact H
                                    have Ny181 := Aside0.mk hy181
                                    clear hy181
                                    have H' := Aside0.mk H
                                    clear H
                                    try go_wp2
                                    have n0_ := Aside0.mk (Kd.R_drew HO_8.out)
                                    have n1_ := Aside0.mk (blk_drew BK176.out)
                                    have n2_ := Aside0.mk (below_drew1 HB.out)
                                    clear HO_8
                                    clear BK176
                                    clear HB
                                    have HO_8 := n0_
                                    have BK176 := n1_
                                    have HB := n2_
                                    clear n0_ n1_ n2_
                                    have p110 : 0 ≤ (x1_2 : Int) := of_decide_eq_true (by first | (with_reducible assumption) | assumption)
                                    have q110 : x1_2 < (a0.size : Int) := of_decide_eq_true (by first | (with_reducible assumption) | assumption)
                                    have hx110 := bt_at a0 x1_2
                                    replace p110 := eq_true p110
                                    replace q110 := eq_true q110
                                    have p115 : 0 ≤ ((ji112) : Int) := of_decide_eq_true (by first | (with_reducible assumption) | assumption)
                                    have q115 : (ji112) < (a0.size : Int) := of_decide_eq_true (by first | (with_reducible assumption) | assumption)
                                    have hx115 := bt_at a0 (ji112)
                                    replace p115 := eq_true p115
                                    replace q115 := eq_true q115
                                    refine start_ (n := 16) (S := fun w' => True) (ds := []) #[false, false, false, false, false, false, false, false, false, false, false, false, false, false, false, false] (by kernel_rfl) rfl rfl trivial (fun hHeld => ?_); refine with_tabW hatchwayref08_parse.tab8 hatchwayref08_parse.bits8 (fun HT_ HW_ => ?_)
                                    generalize wc.drew = w118 at HO_8 BK176 HB hHeld ⊢
                                    refine pure_ (i := 0) (N := some 52) (v := ?_) (a' := ?_) #[true, false, false, false, false, false, false, false, false, false, false, false, false, false, false, false] rfl rfl (any_of HT_.out (by kernel_rfl)) (fun _ _ _ h => h) (Or.inl ⟨by rfl, ?_⟩) ?_ ?_
                                    rotate_left
                                    · intro w'
                                      go_simp
                                      with_reducible rfl
                                    rotate_left
                                    · simp only [Act.put, List.setIfInBounds_toArray, List.set_cons_zero, List.set_cons_succ, i64_w, i32_w]
                                      rfl
                                    refine pure_ (i := 1) (N := some 53) (v := ?_) (a' := ?_) #[true, true, false, false, false, false, false, false, false, false, false, false, false, false, false, false] rfl rfl (any_of HT_.out (by kernel_rfl)) (fun _ _ _ h => h) (Or.inl ⟨by rfl, ?_⟩) ?_ ?_
                                    rotate_left
                                    · intro w'
                                      go_simp
                                      with_reducible rfl
                                    rotate_left
                                    · simp only [Act.put, List.setIfInBounds_toArray, List.set_cons_zero, List.set_cons_succ, i64_w, i32_w]
                                      rfl
                                    refine pure_ (i := 2) (N := some 54) (v := ?_) (a' := ?_) #[true, true, true, false, false, false, false, false, false, false, false, false, false, false, false, false] rfl rfl (any_of HT_.out (by kernel_rfl)) (fun _ _ _ h => h) (Or.inl ⟨by rfl, ?_⟩) ?_ ?_
                                    rotate_left
                                    · intro w'
                                      go_simp
                                      with_reducible rfl
                                    rotate_left
                                    · simp only [Act.put, List.setIfInBounds_toArray, List.set_cons_zero, List.set_cons_succ, i64_w, i32_w]
                                      rfl
                                    refine pure_ (i := 6) (N := some 58) (v := ?_) (a' := ?_) #[true, true, true, false, false, false, true, false, false, false, false, false, false, false, false, false] rfl rfl (any_of HT_.out (by kernel_rfl)) (fun _ _ _ h => h) (Or.inl ⟨by rfl, ?_⟩) ?_ ?_
                                    rotate_left
                                    · intro w'
                                      go_simp
                                      with_reducible rfl
                                    rotate_left
                                    · simp only [Act.put, List.setIfInBounds_toArray, List.set_cons_zero, List.set_cons_succ, i64_w, i32_w]
                                      rfl
                                    refine pure_ (i := 7) (N := some 59) (v := ?_) (a' := ?_) #[true, true, true, false, false, false, true, true, false, false, false, false, false, false, false, false] rfl rfl (any_of HT_.out (by kernel_rfl)) (fun _ _ _ h => h) (Or.inl ⟨by rfl, ?_⟩) ?_ ?_
                                    rotate_left
                                    · intro w'
                                      go_simp
                                      with_reducible rfl
                                    rotate_left
                                    · simp only [Act.put, List.setIfInBounds_toArray, List.set_cons_zero, List.set_cons_succ, i64_w, i32_w]
                                      rfl
                                    refine pure_ (i := 8) (N := some 60) (v := ?_) (a' := ?_) #[true, true, true, false, false, false, true, true, true, false, false, false, false, false, false, false] rfl rfl (any_of HT_.out (by kernel_rfl)) (fun _ _ _ h => h) (Or.inl ⟨by rfl, ?_⟩) ?_ ?_
                                    rotate_left
                                    · intro w'
                                      go_simp
                                      with_reducible rfl
                                    rotate_left
                                    · simp only [Act.put, List.setIfInBounds_toArray, List.set_cons_zero, List.set_cons_succ, i64_w, i32_w]
                                      rfl
                                    refine take_ (i := 3) (N := some 55) (v := ?_) (a' := ?_) #[true, true, true, true, false, false, true, true, true, false, false, false, false, false, false, false] rfl rfl (take_ofW HT_.out HW_.out (by kernel_rfl)) (fun _ _ _ h => h) (Or.inl ⟨by rfl, ?_⟩) hHeld ?_ ?_
                                    rotate_left
                                    · intro w' _
                                      go_simp
                                      with_reducible rfl
                                    rotate_left
                                    · simp only [Act.put, List.setIfInBounds_toArray, List.set_cons_zero, List.set_cons_succ, i64_w, i32_w]
                                      rfl
                                    refine take_ (i := 9) (N := some 61) (v := ?_) (a' := ?_) #[true, true, true, true, false, false, true, true, true, true, false, false, false, false, false, false] rfl rfl (take_ofW HT_.out HW_.out (by kernel_rfl)) (fun _ _ _ h => h) (Or.inl ⟨by rfl, ?_⟩) hHeld ?_ ?_
                                    rotate_left
                                    · intro w' _
                                      go_simp
                                      with_reducible rfl
                                    rotate_left
                                    · simp only [Act.put, List.setIfInBounds_toArray, List.set_cons_zero, List.set_cons_succ, i64_w, i32_w]
                                      rfl
                                    refine one_ (i := 4) (N := some 56) #[true, true, true, true, true, false, true, true, true, true, false, false, false, false, false, false] rfl rfl (one_of HT_.out (by kernel_rfl)) (by decide) (fun K hK => ?_)
                                    refine goes_ Try.func53 (by kernel_rfl) rfl #[.int .u8 (bt a0 x1_2)] (by rfl) rfl rfl (by (try simp only [List.map_toArray, List.map_cons, List.map_nil]); first | done | rfl | (simp only [List.length_drop, List.length_take]; rfl)) ?_
                                    with_reducible refine (hatchwayref08_digit.calls kj95 (bt a0 x1_2) t179 _ A111.out).mono ?_
                                    rintro e w' ⟨rfl, ⟨nd, rfl⟩⟩
                                    refine ⟨_, rfl, ?_⟩
                                    refine hK.out _ _ trivial (fun hHeld => ?_)
                                    clear hK K
                                    refine norm_ (a' := ?_) ?_ ?_
                                    rotate_left
                                    · show Act.put _ (some 56) _ = _
                                      simp only [Act.put, List.setIfInBounds_toArray, List.set_cons_zero, List.set_cons_succ, i64_w, i32_w]
                                      rfl
                                    refine pure_ (i := 5) (N := some 57) (v := ?_) (a' := ?_) #[true, true, true, true, true, true, true, true, true, true, false, false, false, false, false, false] rfl rfl (any_of HT_.out (by kernel_rfl)) (fun _ _ _ h => h) (Or.inl ⟨by rfl, ?_⟩) ?_ ?_
                                    rotate_left
                                    · intro w'
                                      go_simp
                                      with_reducible rfl
                                    rotate_left
                                    · simp only [Act.put, List.setIfInBounds_toArray, List.set_cons_zero, List.set_cons_succ, i64_w, i32_w]
                                      rfl
                                    refine one_ (i := 10) (N := some 62) #[true, true, true, true, true, true, true, true, true, true, true, false, false, false, false, false] rfl rfl (one_of HT_.out (by kernel_rfl)) (by decide) (fun K hK => ?_)
                                    refine goes_ Try.func53 (by kernel_rfl) rfl #[.int .u8 (bt a0 (ji112))] (by rfl) rfl rfl (by (try simp only [List.map_toArray, List.map_cons, List.map_nil]); first | done | (simp only [hji112]; rfl) | rfl | (simp only [List.length_drop, List.length_take]; rfl)) ?_
                                    with_reducible refine (hatchwayref08_digit.calls kj95 (bt a0 (ji112)) t180 _ A116.out).mono ?_
                                    rintro e w' ⟨rfl, ⟨nd, rfl⟩⟩
                                    refine ⟨_, rfl, ?_⟩
                                    refine hK.out _ _ trivial (fun hHeld => ?_)
                                    clear hK K
                                    refine norm_ (a' := ?_) ?_ ?_
                                    rotate_left
                                    · show Act.put _ (some 62) _ = _
                                      simp only [Act.put, List.setIfInBounds_toArray, List.set_cons_zero, List.set_cons_succ, i64_w, i32_w]
                                      rfl
                                    refine pure_ (i := 11) (N := some 63) (v := ?_) (a' := ?_) #[true, true, true, true, true, true, true, true, true, true, true, true, false, false, false, false] rfl rfl (any_of HT_.out (by kernel_rfl)) (fun _ _ _ h => h) (Or.inl ⟨by rfl, ?_⟩) ?_ ?_
                                    rotate_left
                                    · intro w'
                                      go_simp
                                      with_reducible rfl
                                    rotate_left
                                    · simp only [Act.put, List.setIfInBounds_toArray, List.set_cons_zero, List.set_cons_succ, i64_w, i32_w]
                                      rfl
                                    refine pure_ (i := 12) (N := some 64) (v := ?_) (a' := ?_) #[true, true, true, true, true, true, true, true, true, true, true, true, true, false, false, false] rfl rfl (any_of HT_.out (by kernel_rfl)) (fun _ _ _ h => h) (Or.inl ⟨by rfl, ?_⟩) ?_ ?_
                                    rotate_left
                                    · intro w'
                                      go_simp
                                      with_reducible rfl
                                    rotate_left
                                    · simp only [Act.put, List.setIfInBounds_toArray, List.set_cons_zero, List.set_cons_succ, i64_w, i32_w]
                                      rfl
                                    refine one_ (i := 13) (N := some 65) #[true, true, true, true, true, true, true, true, true, true, true, true, true, true, false, false] rfl rfl (one_of HT_.out (by kernel_rfl)) (by decide) (fun K hK => ?_)
                                    refine value_ (w1 := ?_) (v := ?_) (by rfl) rfl ?_ ?_
                                    rotate_left 2
                                    · go_simp
                                      constructor
                                      · rfl
                                      · rfl
                                    refine hK.out _ _ trivial (fun hHeld => ?_)
                                    clear hK K
                                    refine norm_ (a' := ?_) ?_ ?_
                                    rotate_left
                                    · show Act.put _ (some 65) _ = _
                                      simp only [Act.put, List.setIfInBounds_toArray, List.set_cons_zero, List.set_cons_succ, i64_w, i32_w]
                                      rfl
                                    refine one_ (i := 14) (N := some 66) #[true, true, true, true, true, true, true, true, true, true, true, true, true, true, true, false] rfl rfl (one_of HT_.out (by kernel_rfl)) (by decide) (fun K hK => ?_)
                                    refine Kd.R_append_step (Kd.int .u8) (w0 := w) w.heap.size (by rfl) (.tmp 52) (.tmp 65) 63 5 (.int .u8 0) 1 rfl Try.underlying63 info5 rfl (by decide) (by omega) u8 x8_2 ((wrap64 ((wrap64 (16 * t179)) + t180)) % 256) [.int .u8 ((wrap64 ((wrap64 (16 * t179)) + t180)) % 256)] (fun _ => True) (fun _ => False) rfl rfl ?aP (fun _ hk => hk.elim) ?aF ?aO ?aB ?aS ?aL ?_
                                    (case aP => exact rfl)
                                    (case aB => exact (by repeat (first | (with_reducible first | exact HB.out | apply below_alloc | apply pw_below_drewN | apply below_drew1 | refine below_set ?_ GE176.out) | exact HB.out)))
                                    (case aF => exact (fun _ _ => trivial))
                                    (case aO => exact (by (with_reducible repeat (first | apply Kd.R_alloc | apply Kd.R_drewN | apply Kd.R_drew)); exact HO_8.out))
                                    (case aS => exact (below_size (by repeat (first | (with_reducible first | exact HB.out | apply below_alloc | apply pw_below_drewN | apply below_drew1 | refine below_set ?_ GE176.out) | exact HB.out))))
                                    (case aL => have := LMc117.out; omega)
                                    intro v182 w119 ho hb hg hat
                                    rw [← Ny181.out] at ho
                                    have n0_ := Aside0.mk (blk_grown (g := gb176) (o := .cells #[.string (⟨#[]⟩ : ByteArray), .bool false, .slice none 0 0] 43 (0, 0)) (by (with_reducible repeat (first | refine blk_drewN ?_ _ | refine blk_drew ?_ | refine blk_alloc ?_ _)); exact BK176.out) hg (Kd.R_ne HO_8.out BK176.out (by decide)))
                                    have n1_ := Aside0.mk (hb)
                                    have n2_ := Aside0.mk (ho)
                                    clear BK176
                                    clear HB
                                    clear HO_8
                                    have BK176 := n0_
                                    have HB := n1_
                                    have HO183 := n2_
                                    clear n0_ n1_ n2_
                                    clear ho hb hg hat
                                    refine hK.out _ _ trivial (fun hHeld => ?_)
                                    clear hK K
                                    refine norm_ (a' := ?_) ?_ ?_
                                    rotate_left
                                    · show Act.put _ (some 66) _ = _
                                      simp only [Act.put, List.setIfInBounds_toArray, List.set_cons_zero, List.set_cons_succ, i64_w, i32_w]
                                      rfl
                                    refine pure_ (i := 15) (N := some 8) (v := ?_) (a' := ?_) #[true, true, true, true, true, true, true, true, true, true, true, true, true, true, true, true] rfl rfl (any_of HT_.out (by kernel_rfl)) (fun _ _ _ h => h) (Or.inl ⟨by rfl, ?_⟩) ?_ ?_
                                    rotate_left
                                    · intro w'
                                      go_simp
                                      with_reducible rfl
                                    rotate_left
                                    · simp only [Act.put, List.setIfInBounds_toArray, List.set_cons_zero, List.set_cons_succ, i64_w, i32_w]
                                      rfl
                                    refine done_ (done_of HT_.out (by kernel_rfl)) ?_
                                    try go_wp2
                                    go_roundg kj95
                                    case measure => have := HJ3.out; have := HK2.out; have := HJ95.out; omega
                                    case rel => exact ⟨(wrap64 (x1_2 + 2)), (y181), (by first | rfl | (simp; done) | (simp [*]; done)), H', ⟨by have := HJ3.out; have := HK2.out; have := HJ95.out; omega⟩, ⟨by (with_reducible repeat (first | apply Kd.R_alloc | apply Kd.R_drewN | apply Kd.R_drew)); exact HO183.out⟩, ⟨by (with_reducible repeat (first | refine blk_drewN ?_ _ | refine blk_drew ?_ | refine blk_alloc ?_ _)); exact BK176.out⟩, ⟨by repeat (first | (with_reducible first | exact HB.out | apply below_alloc | apply pw_below_drewN | apply below_drew1 | refine below_set ?_ GE176.out) | exact HB.out)⟩⟩
                                  · rw [if_neg c117] at H
                                    exact absurd H (by simp)
                                · rw [if_neg c114] at H
                                  exact absurd H (by simp)
                              · rw [if_neg c113] at H
                                exact absurd H (by simp)
                            · rw [if_neg c109] at H
                              exact absurd H (by simp)
                          · rw [if_neg c108] at H
                            exact absurd H (by simp)
                        · replace c107 := Bool.eq_false_iff.mpr c107
                          subst c107
                          have H1 : (if (x8_2.length : Int) = 0 then (some ((⟨#[]⟩ : ByteArray), false, ([] : List (S43)), (-1))) else (some (strOfNums x8_2, false, ([] : List (S43)), x1_2))) = some (r1, r2, r3, r4) := by rw [if_neg (show ¬ (false = true) by decide)] at H; exact H
                          clear H
                          have H := H1
                          clear H1
                          by_cases c120 : (x8_2.length : Int) = 0
                          · rw [if_pos c120] at H
                            have c120b0 : ((x8_2.length : Int) == 0) = true := beq_iff_eq.mpr c120
                            have c120b1 : ((x8_2.length : Int) != 0) = false := bne_eq_false_iff_eq.mpr c120
                            clear c120
                            simp only [Option.some.injEq, Prod.mk.injEq] at H
                            obtain ⟨rfl, rfl, rfl, rfl⟩ := H
                            obtain ⟨Ao121, co121, eo121⟩ := Kd.R_slice HO_8.out
                            subst eo121
                            have hcz122_0 : wc.cell? ⟨gb176, 0, none⟩ = some (.string (⟨#[]⟩ : ByteArray)) := (blk_cell BK176.out 0).trans rfl
                            have hcz122_1 : wc.cell? ⟨gb176, 1, none⟩ = some (.bool false) := (blk_cell BK176.out 1).trans rfl
                            have hcz122_2 : wc.cell? ⟨gb176, 2, none⟩ = some (.slice none 0 0) := (blk_cell BK176.out 2).trans rfl
                            have hfz122_0 := blk_frozen BK176.out 0
                            have hfz122_1 := blk_frozen BK176.out 1
                            have hfz122_2 := blk_frozen BK176.out 2
                            go_wp2
                            refine bodyPost_ret (results_ct rfl _ _ gb176 43 #[.string (⟨#[]⟩ : ByteArray), .bool false, .slice none 0 0] (0, 0) _ rfl (by (with_reducible repeat (first | refine blk_drewN ?_ _ | refine blk_drew ?_ | refine blk_alloc ?_ _)); refine blk_put (cs := #[.string (⟨#[]⟩ : ByteArray), .bool false, .slice none 0 0]) ?_ 2 _ rfl; (with_reducible repeat (first | refine blk_drewN ?_ _ | refine blk_drew ?_ | refine blk_alloc ?_ _)); refine blk_put (cs := #[.string (⟨#[]⟩ : ByteArray), .bool false, .slice none 0 0]) ?_ 1 _ rfl; (with_reducible repeat (first | refine blk_drewN ?_ _ | refine blk_drew ?_ | refine blk_alloc ?_ _)); refine blk_put (cs := #[.string (⟨#[]⟩ : ByteArray), .bool false, .slice none 0 0]) ?_ 0 _ rfl; (with_reducible repeat (first | refine blk_drewN ?_ _ | refine blk_drew ?_ | refine blk_alloc ?_ _)); exact BK176.out) Try.underlying43 rfl (by kernel_rfl)) rfl ?_
                            exact ⟨_, by first | rfl | (simp [errW_none, errW_some] <;> rfl) | (simp [*, errW_none, errW_some] <;> rfl), by first | exact Kd.R_nil _ _ _ _ _ | exact Kd.N_nil _ _ _ _ _ | exact Kd.V_nil _ _ _ _ _ | exact Kd.Q_nil _ _ _ _ _ | exact Kd.S_nil _ _ _ _ _, by repeat (first | (with_reducible first | exact HB.out | apply below_alloc | apply pw_below_drewN | apply below_drew1 | refine below_set ?_ GE176.out) | exact HB.out)⟩
                          · rw [if_neg c120] at H
                            have c120b0 : ((x8_2.length : Int) == 0) = false := beq_eq_false_iff_ne.mpr c120
                            have c120b1 : ((x8_2.length : Int) != 0) = true := bne_iff_ne.mpr c120
                            have c120b2 : ¬ (x8_2 = []) := fun h_ => c120 (by rw [h_]; rfl)
                            simp only [Option.some.injEq, Prod.mk.injEq] at H
                            obtain ⟨rfl, rfl, rfl, rfl⟩ := H
                            obtain ⟨Ao123, co123, eo123⟩ := Kd.R_slice HO_8.out
                            subst eo123
                            have hcv124 := own_string (P := Try.prog) Try.underlying63 Try.underlying5 Try.underlying9 (Kd.own_of_R HO_8.out)
                            have hcz125_0 : wc.cell? ⟨gb176, 0, none⟩ = some (.string (⟨#[]⟩ : ByteArray)) := (blk_cell BK176.out 0).trans rfl
                            have hcz125_1 : wc.cell? ⟨gb176, 1, none⟩ = some (.bool false) := (blk_cell BK176.out 1).trans rfl
                            have hcz125_2 : wc.cell? ⟨gb176, 2, none⟩ = some (.slice none 0 0) := (blk_cell BK176.out 2).trans rfl
                            have hfz125_0 := blk_frozen BK176.out 0
                            have hfz125_1 := blk_frozen BK176.out 1
                            have hfz125_2 := blk_frozen BK176.out 2
                            go_wp2
                            refine bodyPost_ret (results_ct rfl _ _ gb176 43 #[.string (strOfNums x8_2), .bool false, .slice none 0 0] (0, 0) _ rfl (by (with_reducible repeat (first | refine blk_drewN ?_ _ | refine blk_drew ?_ | refine blk_alloc ?_ _)); refine blk_put (cs := #[.string (strOfNums x8_2), .bool false, .slice none 0 0]) ?_ 2 _ rfl; (with_reducible repeat (first | refine blk_drewN ?_ _ | refine blk_drew ?_ | refine blk_alloc ?_ _)); refine blk_put (cs := #[.string (strOfNums x8_2), .bool false, .slice none 0 0]) ?_ 1 _ rfl; (with_reducible repeat (first | refine blk_drewN ?_ _ | refine blk_drew ?_ | refine blk_alloc ?_ _)); refine blk_put (cs := #[.string (⟨#[]⟩ : ByteArray), .bool false, .slice none 0 0]) ?_ 0 _ rfl; (with_reducible repeat (first | refine blk_drewN ?_ _ | refine blk_drew ?_ | refine blk_alloc ?_ _)); exact BK176.out) Try.underlying43 rfl (by kernel_rfl)) rfl ?_
                            exact ⟨_, by first | rfl | (simp [errW_none, errW_some] <;> rfl) | (simp [*, errW_none, errW_some] <;> rfl), by first | exact Kd.R_nil _ _ _ _ _ | exact Kd.N_nil _ _ _ _ _ | exact Kd.V_nil _ _ _ _ _ | exact Kd.Q_nil _ _ _ _ _ | exact Kd.S_nil _ _ _ _ _, by repeat (first | (with_reducible first | exact HB.out | apply below_alloc | apply pw_below_drewN | apply below_drew1 | refine below_set ?_ GE176.out) | exact HB.out)⟩
          · rw [if_neg c10] at H
            exact absurd H (by simp)
        · rw [if_neg c9] at H
          exact absurd H (by simp)

end Go.Proofs.Ytkdkdjhdoplicaa.It
