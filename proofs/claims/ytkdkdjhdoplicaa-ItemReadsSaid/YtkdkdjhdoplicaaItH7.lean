/- Lines that the kit's print wrote for the functions of the item laws, in one namespace. -/
import Derived.Test.YtkdkdjhdoplicaaItH0
namespace Go.Proofs.Ytkdkdjhdoplicaa.It
open Go.RowKit Go.Proofs.YtkdkdjhdoplicaaW.PrintWords Go.Proofs.YtkdkdjhdoplicaaW.PrintLast Go.Proofs.YtkdkdjhdoplicaaW.PrintMore
attribute [local go_sem] max2_int min2_int max_two min_two max_three min_three max_four min_four   -- for this text's walks alone
set_option linter.unusedVariables false
set_option linter.unusedSimpArgs false

/-! ### hatchwayref08_Show: function 24 -/
mutual
def hatchwayref08_Show.l0 : Nat → ByteArray → Int → ByteArray → Bool → List (S43) → Option (ByteArray)
  | 0, _, _, _, _, _ => none
  | k + 1, x3, x4, x225000, x225001, x225002 => if x4 < (x225002.length : Int) then (if x4 > 0 then (if x3.size + 1 ≤ 9223372036854775807 then (if 0 ≤ x4 then ((hatchwayref08_Show.f k ((rd_T43 x225002 x4).f0) ((rd_T43 x225002 x4).f1) ((rd_T43 x225002 x4).f2)).bind fun t226 => (if (x3 ++ (⟨#[32]⟩ : ByteArray)).size + t226.size ≤ 9223372036854775807 then (hatchwayref08_Show.l0 k ((x3 ++ (⟨#[32]⟩ : ByteArray)) ++ t226) (wrap64 (x4 + 1)) x225000 x225001 x225002) else (none))) else (none)) else (none)) else (if 0 ≤ x4 then ((hatchwayref08_Show.f k ((rd_T43 x225002 x4).f0) ((rd_T43 x225002 x4).f1) ((rd_T43 x225002 x4).f2)).bind fun t228 => (if x3.size + t228.size ≤ 9223372036854775807 then (hatchwayref08_Show.l0 k (x3 ++ t228) (wrap64 (x4 + 1)) x225000 x225001 x225002) else (none))) else (none))) else (if x3.size + 1 ≤ 9223372036854775807 then (some (x3 ++ (⟨#[41]⟩ : ByteArray))) else (none))
def hatchwayref08_Show.l1 : Nat → ByteArray → Int → ByteArray → Bool → List (S43) → Option (ByteArray)
  | 0, _, _, _, _, _ => none
  | k + 1, x5, x6, x225000, x225001, x225002 => if x6 < (x225000.size : Int) then (if 0 ≤ x6 then (if 0 ≤ (wrap64 (Int.tdiv (wrap64 (bt x225000 x6)) 16)) then (if (wrap64 (Int.tdiv (wrap64 (bt x225000 x6)) 16)) ≤ (wrap64 ((wrap64 (Int.tdiv (wrap64 (bt x225000 x6)) 16)) + 1)) then (if (wrap64 ((wrap64 (Int.tdiv (wrap64 (bt x225000 x6)) 16)) + 1)) ≤ 16 then (if x5.size + ((⟨#[48, 49, 50, 51, 52, 53, 54, 55, 56, 57, 97, 98, 99, 100, 101, 102]⟩ : ByteArray).extract ((wrap64 (Int.tdiv (wrap64 (bt x225000 x6)) 16)) : Int).toNat ((wrap64 ((wrap64 (Int.tdiv (wrap64 (bt x225000 x6)) 16)) + 1)) : Int).toNat).size ≤ 9223372036854775807 then (if 0 ≤ (Int.tmod (wrap64 (bt x225000 x6)) 16) then (if (Int.tmod (wrap64 (bt x225000 x6)) 16) ≤ (wrap64 ((Int.tmod (wrap64 (bt x225000 x6)) 16) + 1)) then (if (wrap64 ((Int.tmod (wrap64 (bt x225000 x6)) 16) + 1)) ≤ 16 then (if (x5 ++ ((⟨#[48, 49, 50, 51, 52, 53, 54, 55, 56, 57, 97, 98, 99, 100, 101, 102]⟩ : ByteArray).extract ((wrap64 (Int.tdiv (wrap64 (bt x225000 x6)) 16)) : Int).toNat ((wrap64 ((wrap64 (Int.tdiv (wrap64 (bt x225000 x6)) 16)) + 1)) : Int).toNat)).size + ((⟨#[48, 49, 50, 51, 52, 53, 54, 55, 56, 57, 97, 98, 99, 100, 101, 102]⟩ : ByteArray).extract ((Int.tmod (wrap64 (bt x225000 x6)) 16) : Int).toNat ((wrap64 ((Int.tmod (wrap64 (bt x225000 x6)) 16) + 1)) : Int).toNat).size ≤ 9223372036854775807 then (hatchwayref08_Show.l1 k ((x5 ++ ((⟨#[48, 49, 50, 51, 52, 53, 54, 55, 56, 57, 97, 98, 99, 100, 101, 102]⟩ : ByteArray).extract ((wrap64 (Int.tdiv (wrap64 (bt x225000 x6)) 16)) : Int).toNat ((wrap64 ((wrap64 (Int.tdiv (wrap64 (bt x225000 x6)) 16)) + 1)) : Int).toNat)) ++ ((⟨#[48, 49, 50, 51, 52, 53, 54, 55, 56, 57, 97, 98, 99, 100, 101, 102]⟩ : ByteArray).extract ((Int.tmod (wrap64 (bt x225000 x6)) 16) : Int).toNat ((wrap64 ((Int.tmod (wrap64 (bt x225000 x6)) 16) + 1)) : Int).toNat)) (wrap64 (x6 + 1)) x225000 x225001 x225002) else (none)) else (none)) else (none)) else (none)) else (none)) else (none)) else (none)) else (none)) else (none)) else (some x5)
def hatchwayref08_Show.f : Nat → ByteArray → Bool → List (S43) → Option (ByteArray)
  | 0, _, _, _ => none
  | k + 1, a0_0, a0_1, l0_2 => if a0_1 = true then (hatchwayref08_Show.l0 k (⟨#[40]⟩ : ByteArray) 0 a0_0 a0_1 l0_2) else (if a0_0.toList = ([] : List UInt8) then (some (⟨#[45]⟩ : ByteArray)) else (hatchwayref08_Show.l1 k (⟨#[]⟩ : ByteArray) 0 a0_0 a0_1 l0_2))
end
theorem hatchwayref08_Show.mono_l : ∀ k, (∀ y0 y1 y2, LeO (hatchwayref08_Show.f k y0 y1 y2) (hatchwayref08_Show.f (k + 1) y0 y1 y2)) ∧ (∀ y0 y1 y2 y3 y4, LeO (hatchwayref08_Show.l0 k y0 y1 y2 y3 y4) (hatchwayref08_Show.l0 (k + 1) y0 y1 y2 y3 y4)) ∧ (∀ y0 y1 y2 y3 y4, LeO (hatchwayref08_Show.l1 k y0 y1 y2 y3 y4) (hatchwayref08_Show.l1 (k + 1) y0 y1 y2 y3 y4))
  | 0 => ⟨fun _ _ _ r h => by simp [hatchwayref08_Show.f] at h, fun _ _ _ _ _ r h => by simp [hatchwayref08_Show.l0] at h, fun _ _ _ _ _ r h => by simp [hatchwayref08_Show.l1] at h⟩
  | k + 1 => by
    obtain ⟨ih0, ih1, ih2⟩ := hatchwayref08_Show.mono_l k
    refine ⟨?_, ?_, ?_⟩
    · intro y0 y1 y2
      unfold hatchwayref08_Show.f
      repeat' first
      | (with_reducible exact ih0 _ _ _)
      | (with_reducible exact ih1 _ _ _ _ _)
      | (with_reducible exact ih2 _ _ _ _ _)
      | (with_reducible exact LeO.refl _)
      | (with_reducible exact LeO.none _)
      | (with_reducible refine LeO.ite ?_ ?_)
      | (with_reducible refine LeO.bind ?_ (fun _ => ?_))
      | exact ih0 _ _ _
      | exact ih1 _ _ _ _ _
      | exact ih2 _ _ _ _ _
      | exact LeO.none _
      | refine LeO.ite ?_ ?_
      | refine LeO.bind ?_ (fun _ => ?_)
    · intro y0 y1 y2 y3 y4
      unfold hatchwayref08_Show.l0
      repeat' first
      | (with_reducible exact ih0 _ _ _)
      | (with_reducible exact ih1 _ _ _ _ _)
      | (with_reducible exact ih2 _ _ _ _ _)
      | (with_reducible exact LeO.refl _)
      | (with_reducible exact LeO.none _)
      | (with_reducible refine LeO.ite ?_ ?_)
      | (with_reducible refine LeO.bind ?_ (fun _ => ?_))
      | exact ih0 _ _ _
      | exact ih1 _ _ _ _ _
      | exact ih2 _ _ _ _ _
      | exact LeO.none _
      | refine LeO.ite ?_ ?_
      | refine LeO.bind ?_ (fun _ => ?_)
    · intro y0 y1 y2 y3 y4
      unfold hatchwayref08_Show.l1
      repeat' first
      | (with_reducible exact ih0 _ _ _)
      | (with_reducible exact ih1 _ _ _ _ _)
      | (with_reducible exact ih2 _ _ _ _ _)
      | (with_reducible exact LeO.refl _)
      | (with_reducible exact LeO.none _)
      | (with_reducible refine LeO.ite ?_ ?_)
      | (with_reducible refine LeO.bind ?_ (fun _ => ?_))
      | exact ih0 _ _ _
      | exact ih1 _ _ _ _ _
      | exact ih2 _ _ _ _ _
      | exact LeO.none _
      | refine LeO.ite ?_ ?_
      | refine LeO.bind ?_ (fun _ => ?_)
theorem hatchwayref08_Show.mono : ∀ a0 a1 a2 k, LeO (hatchwayref08_Show.f k a0 a1 a2) (hatchwayref08_Show.f (k + 1) a0 a1 a2) := by
  intro a0 a1 a2 k
  obtain ⟨ih0, ih1, ih2⟩ := hatchwayref08_Show.mono_l k
  exact ih0 a0 a1 a2
set_option maxHeartbeats 8000000 in
set_option maxRecDepth 100000 in
theorem hatchwayref08_Show.calls (k : Nat) : ∀ (a0_0 : ByteArray) (a0_1 : Bool) (A0_2 : Option Addr) (c0_2 : Nat) (l0_2 : List (S43)) (r : ByteArray) (w : World) (hr0_2 : Kd.C k43 w A0_2 l0_2.length l0_2) (hc0_2 : l0_2.length ≤ c0_2) (h : hatchwayref08_Show.f k a0_0 a0_1 l0_2 = some r),
    Calls Try.prog 24 #[.agg #[.string a0_0, .bool a0_1, .slice A0_2 l0_2.length c0_2]] w fun e w' => e = .returned (.string r) ∧ Below w.heap.size w w' := by
  induction k using Nat.strongRecOn with
  | _ k ih =>
  intro a0_0 a0_1 A0_2 c0_2 l0_2 r w hr0_2 hc0_2 h
  cases k with
  | zero => exact absurd h (by simp [hatchwayref08_Show.f])
  | succ k =>
  simp only [hatchwayref08_Show.f] at h
  have hu43 := Try.underlying43
  have HR0_2 := Aside0.mk hr0_2
  have HC0_2 := Aside0.mk hc0_2
  clear hr0_2 hc0_2
  have HB := Aside0.mk (Below.refl w.heap.size w)
  have H : (if a0_1 = true then (hatchwayref08_Show.l0 k (⟨#[40]⟩ : ByteArray) 0 a0_0 a0_1 l0_2) else (if a0_0.toList = ([] : List UInt8) then (some (⟨#[45]⟩ : ByteArray)) else (hatchwayref08_Show.l1 k (⟨#[]⟩ : ByteArray) 0 a0_0 a0_1 l0_2))) = some r := h
  clear h
  by_cases c2 : a0_1 = true
  · subst c2
    have H1 : (hatchwayref08_Show.l0 k (⟨#[40]⟩ : ByteArray) 0 a0_0 true l0_2) = some r := by rw [if_pos rfl] at H; exact H
    clear H
    have H := H1
    clear H1
    have H' := Aside0.mk H
    clear H
    go_enter Try.func24, Try.ntmps24
    go_wp2_with (first | ((with_reducible refine gate_dst (N := 1) rfl ?_); refine box_event ?hg (N := 1) ?hd (cs := #[.string a0_0, .bool true, .slice A0_2 l0_2.length c0_2]) (t := 43) ?hr ?_; (case hd => rfl); (case hg => rfl); (case hr => first | (go_simp; done) | (go_simp; rfl)); intro gb224 hg w3 hbox hb; have n0_ := Aside0.mk (below_step (by repeat (first | (with_reducible first | exact HB.out | apply below_alloc | apply pw_below_drewN | apply below_drew1) | exact HB.out)) hb); have n1_ := Aside0.mk (hbox); have n2_ := Aside0.mk ((by rw [hg]; exact (below_size (by repeat (first | (with_reducible first | exact HB.out | apply below_alloc | apply pw_below_drewN | apply below_drew1) | exact HB.out))) : w.heap.size ≤ gb224)); have n3_ := Aside0.mk ((by rw [hg]; exact (below_size (by repeat (first | (with_reducible first | exact HB.out | apply below_alloc | apply pw_below_drewN | apply below_drew1) | exact HB.out))) : w.heap.size ≤ gb224)); clear HB; have HB := n0_; have BK224 := n1_; have GW224 := n2_; have GE224 := n3_; clear n0_ n1_ n2_ n3_; clear hb hbox hg; have hcz4_0 : w3.cell? ⟨gb224, 0, none⟩ = some (.string a0_0) := (blk_cell BK224.out 0).trans rfl; have hcz4_1 : w3.cell? ⟨gb224, 1, none⟩ = some (.bool true) := (blk_cell BK224.out 1).trans rfl; have hcz4_2 : w3.cell? ⟨gb224, 2, none⟩ = some (.slice A0_2 l0_2.length c0_2) := (blk_cell BK224.out 2).trans rfl; have hfz4_0 := blk_frozen BK224.out 0; have hfz4_1 := blk_frozen BK224.out 1; have hfz4_2 := blk_frozen BK224.out 2))
    repeat (go_quiet (first | ((with_reducible refine gate_dst (N := 1) rfl ?_); refine box_event ?hg (N := 1) ?hd (cs := #[.string a0_0, .bool true, .slice A0_2 l0_2.length c0_2]) (t := 43) ?hr ?_; (case hd => rfl); (case hg => rfl); (case hr => first | (go_simp; done) | (go_simp; rfl)); intro gb224 hg w3 hbox hb; have n0_ := Aside0.mk (below_step (by repeat (first | (with_reducible first | exact HB.out | apply below_alloc | apply pw_below_drewN | apply below_drew1) | exact HB.out)) hb); have n1_ := Aside0.mk (hbox); have n2_ := Aside0.mk ((by rw [hg]; exact (below_size (by repeat (first | (with_reducible first | exact HB.out | apply below_alloc | apply pw_below_drewN | apply below_drew1) | exact HB.out))) : w.heap.size ≤ gb224)); have n3_ := Aside0.mk ((by rw [hg]; exact (below_size (by repeat (first | (with_reducible first | exact HB.out | apply below_alloc | apply pw_below_drewN | apply below_drew1) | exact HB.out))) : w.heap.size ≤ gb224)); clear HB; have HB := n0_; have BK224 := n1_; have GW224 := n2_; have GE224 := n3_; clear n0_ n1_ n2_ n3_; clear hb hbox hg; have hcz4_0 : w3.cell? ⟨gb224, 0, none⟩ = some (.string a0_0) := (blk_cell BK224.out 0).trans rfl; have hcz4_1 : w3.cell? ⟨gb224, 1, none⟩ = some (.bool true) := (blk_cell BK224.out 1).trans rfl; have hcz4_2 : w3.cell? ⟨gb224, 2, none⟩ = some (.slice A0_2 l0_2.length c0_2) := (blk_cell BK224.out 2).trans rfl; have hfz4_0 := blk_frozen BK224.out 0; have hfz4_1 := blk_frozen BK224.out 1; have hfz4_2 := blk_frozen BK224.out 2)); try go_wp2_with (first | ((with_reducible refine gate_dst (N := 1) rfl ?_); refine box_event ?hg (N := 1) ?hd (cs := #[.string a0_0, .bool true, .slice A0_2 l0_2.length c0_2]) (t := 43) ?hr ?_; (case hd => rfl); (case hg => rfl); (case hr => first | (go_simp; done) | (go_simp; rfl)); intro gb224 hg w3 hbox hb; have n0_ := Aside0.mk (below_step (by repeat (first | (with_reducible first | exact HB.out | apply below_alloc | apply pw_below_drewN | apply below_drew1) | exact HB.out)) hb); have n1_ := Aside0.mk (hbox); have n2_ := Aside0.mk ((by rw [hg]; exact (below_size (by repeat (first | (with_reducible first | exact HB.out | apply below_alloc | apply pw_below_drewN | apply below_drew1) | exact HB.out))) : w.heap.size ≤ gb224)); have n3_ := Aside0.mk ((by rw [hg]; exact (below_size (by repeat (first | (with_reducible first | exact HB.out | apply below_alloc | apply pw_below_drewN | apply below_drew1) | exact HB.out))) : w.heap.size ≤ gb224)); clear HB; have HB := n0_; have BK224 := n1_; have GW224 := n2_; have GE224 := n3_; clear n0_ n1_ n2_ n3_; clear hb hbox hg; have hcz4_0 : w3.cell? ⟨gb224, 0, none⟩ = some (.string a0_0) := (blk_cell BK224.out 0).trans rfl; have hcz4_1 : w3.cell? ⟨gb224, 1, none⟩ = some (.bool true) := (blk_cell BK224.out 1).trans rfl; have hcz4_2 : w3.cell? ⟨gb224, 2, none⟩ = some (.slice A0_2 l0_2.length c0_2) := (blk_cell BK224.out 2).trans rfl; have hfz4_0 := blk_frozen BK224.out 0; have hfz4_1 := blk_frozen BK224.out 1; have hfz4_2 := blk_frozen BK224.out 2)))
    go_loopg [3, 4] k (fun kq v3 v4 w' => ∃ (x3_1 : ByteArray) (x4_1 : Int), v3 = .string x3_1 ∧ v4 = .int .i64 x4_1 ∧ Aside0 (hatchwayref08_Show.l0 kq x3_1 x4_1 a0_0 true l0_2 = some r) ∧ Aside0 (kq ≤ k) ∧ Aside0 (w'.heap[gb224]? = some (.cells #[.string a0_0, .bool true, (.slice A0_2 l0_2.length c0_2)] 43 (0, 0))) ∧ Aside0 (Below w.heap.size w w'))
    case atStart => exact ⟨((⟨#[40]⟩ : ByteArray)), (0), (by first | rfl | (simp; done) | (simp [*]; done)), (by first | rfl | (simp; done) | (simp [*]; done)), H', ⟨Nat.le_refl _⟩, ⟨by (with_reducible repeat (first | refine blk_drewN ?_ _ | refine blk_drew ?_ | refine blk_alloc ?_ _)); exact BK224.out⟩, ⟨by repeat (first | (with_reducible first | exact HB.out | apply below_alloc | apply pw_below_drewN | apply below_drew1 | refine below_set ?_ GE224.out) | exact HB.out)⟩⟩
    case round =>
      clear H'
      try clear c2
      try clear p2
      try clear hcz4_0
      try clear hcz4_1
      try clear hcz4_2
      try clear hfz4_0
      try clear hfz4_1
      try clear hfz4_2
      obtain ⟨x3_1, x4_1, rfl, rfl, HA, HK1, BK224, HB⟩ := hrel
      cases gk with
      | zero => exact absurd HA.out (by simp [hatchwayref08_Show.l0])
      | succ k1 =>
        have H := HA.out
        clear HA
        simp only [hatchwayref08_Show.l0] at H
        by_cases c5 : x4_1 < (l0_2.length : Int)
        · rw [if_pos c5] at H
          have c5b0 : decide (x4_1 < (l0_2.length : Int)) = true := decide_eq_true c5
          clear c5
          by_cases c6 : x4_1 > 0
          · rw [if_pos c6] at H
            have c6b0 : decide (0 < x4_1) = true := decide_eq_true c6
            clear c6
            by_cases c7 : x3_1.size + 1 ≤ 9223372036854775807
            · rw [if_pos c7] at H
              have c7b0 := eq_true c7
              have c7b1 : decide (x3_1.size + 1 ≤ 9223372036854775807) = true := decide_eq_true c7
              try have c7b2 : (9223372036854775807 < x3_1.size + 1) = False := eq_false (Nat.not_lt.2 c7)
              by_cases c8 : 0 ≤ x4_1
              · rw [if_pos c8] at H
                have c8b0 : decide (0 ≤ x4_1) = true := decide_eq_true c8
                clear c8
                replace H := Option.bind_eq_some_iff.mp H
                obtain ⟨t226, A90, H⟩ := H
                replace H : (if (x3_1 ++ (⟨#[32]⟩ : ByteArray)).size + t226.size ≤ 9223372036854775807 then (hatchwayref08_Show.l0 k1 ((x3_1 ++ (⟨#[32]⟩ : ByteArray)) ++ t226) (wrap64 (x4_1 + 1)) a0_0 true l0_2) else (none)) = some r := H
                have A9 := Aside0.mk A90
                clear A90
                by_cases c10 : (x3_1 ++ (⟨#[32]⟩ : ByteArray)).size + t226.size ≤ 9223372036854775807
                · rw [if_pos c10] at H
                  have c10b0 := eq_true c10
                  have c10b1 : decide ((x3_1 ++ (⟨#[32]⟩ : ByteArray)).size + t226.size ≤ 9223372036854775807) = true := decide_eq_true c10
                  try have c10b2 : (9223372036854775807 < (x3_1 ++ (⟨#[32]⟩ : ByteArray)).size + t226.size) = False := eq_false (Nat.not_lt.2 c10)
                  have H' := Aside0.mk H
                  clear H
                  have hcz11_0 : wr.cell? ⟨gb224, 0, none⟩ = some (.string a0_0) := (blk_cell BK224.out 0).trans rfl
                  have hcz11_1 : wr.cell? ⟨gb224, 1, none⟩ = some (.bool true) := (blk_cell BK224.out 1).trans rfl
                  have hcz11_2 : wr.cell? ⟨gb224, 2, none⟩ = some (.slice A0_2 l0_2.length c0_2) := (blk_cell BK224.out 2).trans rfl
                  have hfz11_0 := blk_frozen BK224.out 0
                  have hfz11_1 := blk_frozen BK224.out 1
                  have hfz11_2 := blk_frozen BK224.out 2
                  have p225 : 0 ≤ (x4_1 : Int) := of_decide_eq_true (by first | (with_reducible assumption) | assumption)
                  have q225 : x4_1 < (l0_2.length : Int) := of_decide_eq_true (by first | (with_reducible assumption) | assumption)
                  obtain ⟨ad225, A225_2, c225_2, e225, hx225_0, hx225_1, hx225_2, hl225_2, hi225_2⟩ := at_T43 HR0_2.out x4_1 p225 q225
                  cases e225
                  replace hx225_0 := (HB.out.cell (World.block_lt_of_cell? w _ hx225_0)).trans hx225_0
                  replace hx225_1 := (HB.out.cell (World.block_lt_of_cell? w _ hx225_1)).trans hx225_1
                  replace hx225_2 := (HB.out.cell (World.block_lt_of_cell? w _ hx225_2)).trans hx225_2
                  have HR225_2 := Aside0.mk hi225_2
                  have HC225_2 := Aside0.mk hl225_2
                  clear hi225_2 hl225_2
                  replace p225 := eq_true p225
                  replace q225 := eq_true q225
                  go_wp2_with (first | (go_at_call 24; (with_reducible refine (ih k1 (by have := HK1.out; omega) ((rd_T43 l0_2 x4_1).f0) ((rd_T43 l0_2 x4_1).f1) _ _ ((rd_T43 l0_2 x4_1).f2) t226 _ ?side1 ?side2 A9.out).mono ?_); (case side1 => repeat (first | exact (Kd.C_below HR225_2.out HB.out) | (with_reducible refine Kd.C_alloc ?_ _) | (with_reducible refine Kd.C_drewN ?_ _) | (with_reducible refine Kd.C_drew ?_))); (case side2 => exact HC225_2.out); rintro e w12 ⟨rfl, hb⟩; have n0_ := Aside0.mk (blk_below (g := gb224) (o := .cells #[.string a0_0, .bool true, .slice (some ad225) l0_2.length c0_2] 43 (0, 0)) (by (with_reducible repeat (first | refine blk_drewN ?_ _ | refine blk_drew ?_ | refine blk_alloc ?_ _)); exact BK224.out) hb); have n1_ := Aside0.mk (below_step (by repeat (first | (with_reducible first | exact HB.out | apply below_alloc | apply pw_below_drewN | apply below_drew1 | refine below_set ?_ GE224.out) | exact HB.out)) hb); clear BK224; clear HB; have BK224 := n0_; have HB := n1_; clear n0_ n1_; (try clear hb); (try clear hb2); (try clear hk); (try clear hi)))
                  repeat (go_quiet (first | (go_at_call 24; (with_reducible refine (ih k1 (by have := HK1.out; omega) ((rd_T43 l0_2 x4_1).f0) ((rd_T43 l0_2 x4_1).f1) _ _ ((rd_T43 l0_2 x4_1).f2) t226 _ ?side1 ?side2 A9.out).mono ?_); (case side1 => repeat (first | exact (Kd.C_below HR225_2.out HB.out) | (with_reducible refine Kd.C_alloc ?_ _) | (with_reducible refine Kd.C_drewN ?_ _) | (with_reducible refine Kd.C_drew ?_))); (case side2 => exact HC225_2.out); rintro e w12 ⟨rfl, hb⟩; have n0_ := Aside0.mk (blk_below (g := gb224) (o := .cells #[.string a0_0, .bool true, .slice (some ad225) l0_2.length c0_2] 43 (0, 0)) (by (with_reducible repeat (first | refine blk_drewN ?_ _ | refine blk_drew ?_ | refine blk_alloc ?_ _)); exact BK224.out) hb); have n1_ := Aside0.mk (below_step (by repeat (first | (with_reducible first | exact HB.out | apply below_alloc | apply pw_below_drewN | apply below_drew1 | refine below_set ?_ GE224.out) | exact HB.out)) hb); clear BK224; clear HB; have BK224 := n0_; have HB := n1_; clear n0_ n1_; (try clear hb); (try clear hb2); (try clear hk); (try clear hi))); try go_wp2_with (first | (go_at_call 24; (with_reducible refine (ih k1 (by have := HK1.out; omega) ((rd_T43 l0_2 x4_1).f0) ((rd_T43 l0_2 x4_1).f1) _ _ ((rd_T43 l0_2 x4_1).f2) t226 _ ?side1 ?side2 A9.out).mono ?_); (case side1 => repeat (first | exact (Kd.C_below HR225_2.out HB.out) | (with_reducible refine Kd.C_alloc ?_ _) | (with_reducible refine Kd.C_drewN ?_ _) | (with_reducible refine Kd.C_drew ?_))); (case side2 => exact HC225_2.out); rintro e w12 ⟨rfl, hb⟩; have n0_ := Aside0.mk (blk_below (g := gb224) (o := .cells #[.string a0_0, .bool true, .slice (some ad225) l0_2.length c0_2] 43 (0, 0)) (by (with_reducible repeat (first | refine blk_drewN ?_ _ | refine blk_drew ?_ | refine blk_alloc ?_ _)); exact BK224.out) hb); have n1_ := Aside0.mk (below_step (by repeat (first | (with_reducible first | exact HB.out | apply below_alloc | apply pw_below_drewN | apply below_drew1 | refine below_set ?_ GE224.out) | exact HB.out)) hb); clear BK224; clear HB; have BK224 := n0_; have HB := n1_; clear n0_ n1_; (try clear hb); (try clear hb2); (try clear hk); (try clear hi))))
                  go_roundg k1
                  case measure => have := HK1.out; omega
                  case rel => exact ⟨((x3_1 ++ (⟨#[32]⟩ : ByteArray)) ++ t226), (wrap64 (x4_1 + 1)), (by first | rfl | (simp; done) | (simp [*]; done)), (by first | rfl | (simp; done) | (simp [*]; done)), H', ⟨by have := HK1.out; omega⟩, ⟨by (with_reducible repeat (first | refine blk_drewN ?_ _ | refine blk_drew ?_ | refine blk_alloc ?_ _)); exact BK224.out⟩, ⟨by repeat (first | (with_reducible first | exact HB.out | apply below_alloc | apply pw_below_drewN | apply below_drew1 | refine below_set ?_ GE224.out) | exact HB.out)⟩⟩
                · rw [if_neg c10] at H
                  exact absurd H (by simp)
              · rw [if_neg c8] at H
                exact absurd H (by simp)
            · rw [if_neg c7] at H
              exact absurd H (by simp)
          · rw [if_neg c6] at H
            have c6b0 : decide (0 < x4_1) = false := decide_eq_false c6
            clear c6
            by_cases c13 : 0 ≤ x4_1
            · rw [if_pos c13] at H
              have c13b0 : decide (0 ≤ x4_1) = true := decide_eq_true c13
              clear c13
              replace H := Option.bind_eq_some_iff.mp H
              obtain ⟨t228, A140, H⟩ := H
              replace H : (if x3_1.size + t228.size ≤ 9223372036854775807 then (hatchwayref08_Show.l0 k1 (x3_1 ++ t228) (wrap64 (x4_1 + 1)) a0_0 true l0_2) else (none)) = some r := H
              have A14 := Aside0.mk A140
              clear A140
              by_cases c15 : x3_1.size + t228.size ≤ 9223372036854775807
              · rw [if_pos c15] at H
                have c15b0 := eq_true c15
                have c15b1 : decide (x3_1.size + t228.size ≤ 9223372036854775807) = true := decide_eq_true c15
                try have c15b2 : (9223372036854775807 < x3_1.size + t228.size) = False := eq_false (Nat.not_lt.2 c15)
                have H' := Aside0.mk H
                clear H
                have hcz16_0 : wr.cell? ⟨gb224, 0, none⟩ = some (.string a0_0) := (blk_cell BK224.out 0).trans rfl
                have hcz16_1 : wr.cell? ⟨gb224, 1, none⟩ = some (.bool true) := (blk_cell BK224.out 1).trans rfl
                have hcz16_2 : wr.cell? ⟨gb224, 2, none⟩ = some (.slice A0_2 l0_2.length c0_2) := (blk_cell BK224.out 2).trans rfl
                have hfz16_0 := blk_frozen BK224.out 0
                have hfz16_1 := blk_frozen BK224.out 1
                have hfz16_2 := blk_frozen BK224.out 2
                have p227 : 0 ≤ (x4_1 : Int) := of_decide_eq_true (by first | (with_reducible assumption) | assumption)
                have q227 : x4_1 < (l0_2.length : Int) := of_decide_eq_true (by first | (with_reducible assumption) | assumption)
                obtain ⟨ad227, A227_2, c227_2, e227, hx227_0, hx227_1, hx227_2, hl227_2, hi227_2⟩ := at_T43 HR0_2.out x4_1 p227 q227
                cases e227
                replace hx227_0 := (HB.out.cell (World.block_lt_of_cell? w _ hx227_0)).trans hx227_0
                replace hx227_1 := (HB.out.cell (World.block_lt_of_cell? w _ hx227_1)).trans hx227_1
                replace hx227_2 := (HB.out.cell (World.block_lt_of_cell? w _ hx227_2)).trans hx227_2
                have HR227_2 := Aside0.mk hi227_2
                have HC227_2 := Aside0.mk hl227_2
                clear hi227_2 hl227_2
                replace p227 := eq_true p227
                replace q227 := eq_true q227
                go_wp2_with (first | (go_at_call 24; (with_reducible refine (ih k1 (by have := HK1.out; omega) ((rd_T43 l0_2 x4_1).f0) ((rd_T43 l0_2 x4_1).f1) _ _ ((rd_T43 l0_2 x4_1).f2) t228 _ ?side1 ?side2 A14.out).mono ?_); (case side1 => repeat (first | exact (Kd.C_below HR227_2.out HB.out) | (with_reducible refine Kd.C_alloc ?_ _) | (with_reducible refine Kd.C_drewN ?_ _) | (with_reducible refine Kd.C_drew ?_))); (case side2 => exact HC227_2.out); rintro e w17 ⟨rfl, hb⟩; have n0_ := Aside0.mk (blk_below (g := gb224) (o := .cells #[.string a0_0, .bool true, .slice (some ad227) l0_2.length c0_2] 43 (0, 0)) (by (with_reducible repeat (first | refine blk_drewN ?_ _ | refine blk_drew ?_ | refine blk_alloc ?_ _)); exact BK224.out) hb); have n1_ := Aside0.mk (below_step (by repeat (first | (with_reducible first | exact HB.out | apply below_alloc | apply pw_below_drewN | apply below_drew1 | refine below_set ?_ GE224.out) | exact HB.out)) hb); clear BK224; clear HB; have BK224 := n0_; have HB := n1_; clear n0_ n1_; (try clear hb); (try clear hb2); (try clear hk); (try clear hi)))
                repeat (go_quiet (first | (go_at_call 24; (with_reducible refine (ih k1 (by have := HK1.out; omega) ((rd_T43 l0_2 x4_1).f0) ((rd_T43 l0_2 x4_1).f1) _ _ ((rd_T43 l0_2 x4_1).f2) t228 _ ?side1 ?side2 A14.out).mono ?_); (case side1 => repeat (first | exact (Kd.C_below HR227_2.out HB.out) | (with_reducible refine Kd.C_alloc ?_ _) | (with_reducible refine Kd.C_drewN ?_ _) | (with_reducible refine Kd.C_drew ?_))); (case side2 => exact HC227_2.out); rintro e w17 ⟨rfl, hb⟩; have n0_ := Aside0.mk (blk_below (g := gb224) (o := .cells #[.string a0_0, .bool true, .slice (some ad227) l0_2.length c0_2] 43 (0, 0)) (by (with_reducible repeat (first | refine blk_drewN ?_ _ | refine blk_drew ?_ | refine blk_alloc ?_ _)); exact BK224.out) hb); have n1_ := Aside0.mk (below_step (by repeat (first | (with_reducible first | exact HB.out | apply below_alloc | apply pw_below_drewN | apply below_drew1 | refine below_set ?_ GE224.out) | exact HB.out)) hb); clear BK224; clear HB; have BK224 := n0_; have HB := n1_; clear n0_ n1_; (try clear hb); (try clear hb2); (try clear hk); (try clear hi))); try go_wp2_with (first | (go_at_call 24; (with_reducible refine (ih k1 (by have := HK1.out; omega) ((rd_T43 l0_2 x4_1).f0) ((rd_T43 l0_2 x4_1).f1) _ _ ((rd_T43 l0_2 x4_1).f2) t228 _ ?side1 ?side2 A14.out).mono ?_); (case side1 => repeat (first | exact (Kd.C_below HR227_2.out HB.out) | (with_reducible refine Kd.C_alloc ?_ _) | (with_reducible refine Kd.C_drewN ?_ _) | (with_reducible refine Kd.C_drew ?_))); (case side2 => exact HC227_2.out); rintro e w17 ⟨rfl, hb⟩; have n0_ := Aside0.mk (blk_below (g := gb224) (o := .cells #[.string a0_0, .bool true, .slice (some ad227) l0_2.length c0_2] 43 (0, 0)) (by (with_reducible repeat (first | refine blk_drewN ?_ _ | refine blk_drew ?_ | refine blk_alloc ?_ _)); exact BK224.out) hb); have n1_ := Aside0.mk (below_step (by repeat (first | (with_reducible first | exact HB.out | apply below_alloc | apply pw_below_drewN | apply below_drew1 | refine below_set ?_ GE224.out) | exact HB.out)) hb); clear BK224; clear HB; have BK224 := n0_; have HB := n1_; clear n0_ n1_; (try clear hb); (try clear hb2); (try clear hk); (try clear hi))))
                go_roundg k1
                case measure => have := HK1.out; omega
                case rel => exact ⟨(x3_1 ++ t228), (wrap64 (x4_1 + 1)), (by first | rfl | (simp; done) | (simp [*]; done)), (by first | rfl | (simp; done) | (simp [*]; done)), H', ⟨by have := HK1.out; omega⟩, ⟨by (with_reducible repeat (first | refine blk_drewN ?_ _ | refine blk_drew ?_ | refine blk_alloc ?_ _)); exact BK224.out⟩, ⟨by repeat (first | (with_reducible first | exact HB.out | apply below_alloc | apply pw_below_drewN | apply below_drew1 | refine below_set ?_ GE224.out) | exact HB.out)⟩⟩
              · rw [if_neg c15] at H
                exact absurd H (by simp)
            · rw [if_neg c13] at H
              exact absurd H (by simp)
        · rw [if_neg c5] at H
          have c5b0 : decide (x4_1 < (l0_2.length : Int)) = false := decide_eq_false c5
          clear c5
          by_cases c18 : x3_1.size + 1 ≤ 9223372036854775807
          · rw [if_pos c18] at H
            have c18b0 := eq_true c18
            have c18b1 : decide (x3_1.size + 1 ≤ 9223372036854775807) = true := decide_eq_true c18
            try have c18b2 : (9223372036854775807 < x3_1.size + 1) = False := eq_false (Nat.not_lt.2 c18)
            obtain rfl := Option.some.inj H
            have hcz19_0 : wr.cell? ⟨gb224, 0, none⟩ = some (.string a0_0) := (blk_cell BK224.out 0).trans rfl
            have hcz19_1 : wr.cell? ⟨gb224, 1, none⟩ = some (.bool true) := (blk_cell BK224.out 1).trans rfl
            have hcz19_2 : wr.cell? ⟨gb224, 2, none⟩ = some (.slice A0_2 l0_2.length c0_2) := (blk_cell BK224.out 2).trans rfl
            have hfz19_0 := blk_frozen BK224.out 0
            have hfz19_1 := blk_frozen BK224.out 1
            have hfz19_2 := blk_frozen BK224.out 2
            go_wp2
            repeat (go_quiet (fail); try go_wp2)
            go_ret
            exact ⟨by first | rfl | (simp [errW_none, errW_some] <;> rfl) | (simp [*, errW_none, errW_some] <;> rfl), by repeat (first | (with_reducible first | exact HB.out | apply below_alloc | apply pw_below_drewN | apply below_drew1 | refine below_set ?_ GE224.out) | exact HB.out)⟩
          · rw [if_neg c18] at H
            exact absurd H (by simp)
  · replace c2 := Bool.eq_false_iff.mpr c2
    subst c2
    have H1 : (if a0_0.toList = ([] : List UInt8) then (some (⟨#[45]⟩ : ByteArray)) else (hatchwayref08_Show.l1 k (⟨#[]⟩ : ByteArray) 0 a0_0 false l0_2)) = some r := by rw [if_neg (show ¬ (false = true) by decide)] at H; exact H
    clear H
    have H := H1
    clear H1
    by_cases c20 : a0_0.toList = ([] : List UInt8)
    · rw [if_pos c20] at H
      have c20b0 : (a0_0.toList == ([] : List UInt8)) = true := beq_iff_eq.mpr c20
      have c20b1 : (a0_0.toList != ([] : List UInt8)) = false := bne_eq_false_iff_eq.mpr c20
      clear c20
      obtain rfl := Option.some.inj H
      go_enter Try.func24, Try.ntmps24
      go_wp2_with (first | ((with_reducible refine gate_dst (N := 1) rfl ?_); refine box_event ?hg (N := 1) ?hd (cs := #[.string a0_0, .bool false, .slice A0_2 l0_2.length c0_2]) (t := 43) ?hr ?_; (case hd => rfl); (case hg => rfl); (case hr => first | (go_simp; done) | (go_simp; rfl)); intro gb224 hg w21 hbox hb; have n0_ := Aside0.mk (below_step (by repeat (first | (with_reducible first | exact HB.out | apply below_alloc | apply pw_below_drewN | apply below_drew1) | exact HB.out)) hb); have n1_ := Aside0.mk (hbox); have n2_ := Aside0.mk ((by rw [hg]; exact (below_size (by repeat (first | (with_reducible first | exact HB.out | apply below_alloc | apply pw_below_drewN | apply below_drew1) | exact HB.out))) : w.heap.size ≤ gb224)); have n3_ := Aside0.mk ((by rw [hg]; exact (below_size (by repeat (first | (with_reducible first | exact HB.out | apply below_alloc | apply pw_below_drewN | apply below_drew1) | exact HB.out))) : w.heap.size ≤ gb224)); clear HB; have HB := n0_; have BK224 := n1_; have GW224 := n2_; have GE224 := n3_; clear n0_ n1_ n2_ n3_; clear hb hbox hg; have hcz22_0 : w21.cell? ⟨gb224, 0, none⟩ = some (.string a0_0) := (blk_cell BK224.out 0).trans rfl; have hcz22_1 : w21.cell? ⟨gb224, 1, none⟩ = some (.bool false) := (blk_cell BK224.out 1).trans rfl; have hcz22_2 : w21.cell? ⟨gb224, 2, none⟩ = some (.slice A0_2 l0_2.length c0_2) := (blk_cell BK224.out 2).trans rfl; have hfz22_0 := blk_frozen BK224.out 0; have hfz22_1 := blk_frozen BK224.out 1; have hfz22_2 := blk_frozen BK224.out 2))
      repeat (go_quiet (first | ((with_reducible refine gate_dst (N := 1) rfl ?_); refine box_event ?hg (N := 1) ?hd (cs := #[.string a0_0, .bool false, .slice A0_2 l0_2.length c0_2]) (t := 43) ?hr ?_; (case hd => rfl); (case hg => rfl); (case hr => first | (go_simp; done) | (go_simp; rfl)); intro gb224 hg w21 hbox hb; have n0_ := Aside0.mk (below_step (by repeat (first | (with_reducible first | exact HB.out | apply below_alloc | apply pw_below_drewN | apply below_drew1) | exact HB.out)) hb); have n1_ := Aside0.mk (hbox); have n2_ := Aside0.mk ((by rw [hg]; exact (below_size (by repeat (first | (with_reducible first | exact HB.out | apply below_alloc | apply pw_below_drewN | apply below_drew1) | exact HB.out))) : w.heap.size ≤ gb224)); have n3_ := Aside0.mk ((by rw [hg]; exact (below_size (by repeat (first | (with_reducible first | exact HB.out | apply below_alloc | apply pw_below_drewN | apply below_drew1) | exact HB.out))) : w.heap.size ≤ gb224)); clear HB; have HB := n0_; have BK224 := n1_; have GW224 := n2_; have GE224 := n3_; clear n0_ n1_ n2_ n3_; clear hb hbox hg; have hcz22_0 : w21.cell? ⟨gb224, 0, none⟩ = some (.string a0_0) := (blk_cell BK224.out 0).trans rfl; have hcz22_1 : w21.cell? ⟨gb224, 1, none⟩ = some (.bool false) := (blk_cell BK224.out 1).trans rfl; have hcz22_2 : w21.cell? ⟨gb224, 2, none⟩ = some (.slice A0_2 l0_2.length c0_2) := (blk_cell BK224.out 2).trans rfl; have hfz22_0 := blk_frozen BK224.out 0; have hfz22_1 := blk_frozen BK224.out 1; have hfz22_2 := blk_frozen BK224.out 2)); try go_wp2_with (first | ((with_reducible refine gate_dst (N := 1) rfl ?_); refine box_event ?hg (N := 1) ?hd (cs := #[.string a0_0, .bool false, .slice A0_2 l0_2.length c0_2]) (t := 43) ?hr ?_; (case hd => rfl); (case hg => rfl); (case hr => first | (go_simp; done) | (go_simp; rfl)); intro gb224 hg w21 hbox hb; have n0_ := Aside0.mk (below_step (by repeat (first | (with_reducible first | exact HB.out | apply below_alloc | apply pw_below_drewN | apply below_drew1) | exact HB.out)) hb); have n1_ := Aside0.mk (hbox); have n2_ := Aside0.mk ((by rw [hg]; exact (below_size (by repeat (first | (with_reducible first | exact HB.out | apply below_alloc | apply pw_below_drewN | apply below_drew1) | exact HB.out))) : w.heap.size ≤ gb224)); have n3_ := Aside0.mk ((by rw [hg]; exact (below_size (by repeat (first | (with_reducible first | exact HB.out | apply below_alloc | apply pw_below_drewN | apply below_drew1) | exact HB.out))) : w.heap.size ≤ gb224)); clear HB; have HB := n0_; have BK224 := n1_; have GW224 := n2_; have GE224 := n3_; clear n0_ n1_ n2_ n3_; clear hb hbox hg; have hcz22_0 : w21.cell? ⟨gb224, 0, none⟩ = some (.string a0_0) := (blk_cell BK224.out 0).trans rfl; have hcz22_1 : w21.cell? ⟨gb224, 1, none⟩ = some (.bool false) := (blk_cell BK224.out 1).trans rfl; have hcz22_2 : w21.cell? ⟨gb224, 2, none⟩ = some (.slice A0_2 l0_2.length c0_2) := (blk_cell BK224.out 2).trans rfl; have hfz22_0 := blk_frozen BK224.out 0; have hfz22_1 := blk_frozen BK224.out 1; have hfz22_2 := blk_frozen BK224.out 2)))
      go_ret
      exact ⟨by first | rfl | (simp [errW_none, errW_some] <;> rfl) | (simp [*, errW_none, errW_some] <;> rfl), by repeat (first | (with_reducible first | exact HB.out | apply below_alloc | apply pw_below_drewN | apply below_drew1 | refine below_set ?_ GE224.out) | exact HB.out)⟩
    · rw [if_neg c20] at H
      have c20b0 : (a0_0.toList == ([] : List UInt8)) = false := beq_eq_false_iff_ne.mpr c20
      have c20b1 : (a0_0.toList != ([] : List UInt8)) = true := bne_iff_ne.mpr c20
      have H' := Aside0.mk H
      clear H
      go_enter Try.func24, Try.ntmps24
      go_wp2_with (first | ((with_reducible refine gate_dst (N := 1) rfl ?_); refine box_event ?hg (N := 1) ?hd (cs := #[.string a0_0, .bool false, .slice A0_2 l0_2.length c0_2]) (t := 43) ?hr ?_; (case hd => rfl); (case hg => rfl); (case hr => first | (go_simp; done) | (go_simp; rfl)); intro gb224 hg w23 hbox hb; have n0_ := Aside0.mk (below_step (by repeat (first | (with_reducible first | exact HB.out | apply below_alloc | apply pw_below_drewN | apply below_drew1) | exact HB.out)) hb); have n1_ := Aside0.mk (hbox); have n2_ := Aside0.mk ((by rw [hg]; exact (below_size (by repeat (first | (with_reducible first | exact HB.out | apply below_alloc | apply pw_below_drewN | apply below_drew1) | exact HB.out))) : w.heap.size ≤ gb224)); have n3_ := Aside0.mk ((by rw [hg]; exact (below_size (by repeat (first | (with_reducible first | exact HB.out | apply below_alloc | apply pw_below_drewN | apply below_drew1) | exact HB.out))) : w.heap.size ≤ gb224)); clear HB; have HB := n0_; have BK224 := n1_; have GW224 := n2_; have GE224 := n3_; clear n0_ n1_ n2_ n3_; clear hb hbox hg; have hcz24_0 : w23.cell? ⟨gb224, 0, none⟩ = some (.string a0_0) := (blk_cell BK224.out 0).trans rfl; have hcz24_1 : w23.cell? ⟨gb224, 1, none⟩ = some (.bool false) := (blk_cell BK224.out 1).trans rfl; have hcz24_2 : w23.cell? ⟨gb224, 2, none⟩ = some (.slice A0_2 l0_2.length c0_2) := (blk_cell BK224.out 2).trans rfl; have hfz24_0 := blk_frozen BK224.out 0; have hfz24_1 := blk_frozen BK224.out 1; have hfz24_2 := blk_frozen BK224.out 2))
      repeat (go_quiet (first | ((with_reducible refine gate_dst (N := 1) rfl ?_); refine box_event ?hg (N := 1) ?hd (cs := #[.string a0_0, .bool false, .slice A0_2 l0_2.length c0_2]) (t := 43) ?hr ?_; (case hd => rfl); (case hg => rfl); (case hr => first | (go_simp; done) | (go_simp; rfl)); intro gb224 hg w23 hbox hb; have n0_ := Aside0.mk (below_step (by repeat (first | (with_reducible first | exact HB.out | apply below_alloc | apply pw_below_drewN | apply below_drew1) | exact HB.out)) hb); have n1_ := Aside0.mk (hbox); have n2_ := Aside0.mk ((by rw [hg]; exact (below_size (by repeat (first | (with_reducible first | exact HB.out | apply below_alloc | apply pw_below_drewN | apply below_drew1) | exact HB.out))) : w.heap.size ≤ gb224)); have n3_ := Aside0.mk ((by rw [hg]; exact (below_size (by repeat (first | (with_reducible first | exact HB.out | apply below_alloc | apply pw_below_drewN | apply below_drew1) | exact HB.out))) : w.heap.size ≤ gb224)); clear HB; have HB := n0_; have BK224 := n1_; have GW224 := n2_; have GE224 := n3_; clear n0_ n1_ n2_ n3_; clear hb hbox hg; have hcz24_0 : w23.cell? ⟨gb224, 0, none⟩ = some (.string a0_0) := (blk_cell BK224.out 0).trans rfl; have hcz24_1 : w23.cell? ⟨gb224, 1, none⟩ = some (.bool false) := (blk_cell BK224.out 1).trans rfl; have hcz24_2 : w23.cell? ⟨gb224, 2, none⟩ = some (.slice A0_2 l0_2.length c0_2) := (blk_cell BK224.out 2).trans rfl; have hfz24_0 := blk_frozen BK224.out 0; have hfz24_1 := blk_frozen BK224.out 1; have hfz24_2 := blk_frozen BK224.out 2)); try go_wp2_with (first | ((with_reducible refine gate_dst (N := 1) rfl ?_); refine box_event ?hg (N := 1) ?hd (cs := #[.string a0_0, .bool false, .slice A0_2 l0_2.length c0_2]) (t := 43) ?hr ?_; (case hd => rfl); (case hg => rfl); (case hr => first | (go_simp; done) | (go_simp; rfl)); intro gb224 hg w23 hbox hb; have n0_ := Aside0.mk (below_step (by repeat (first | (with_reducible first | exact HB.out | apply below_alloc | apply pw_below_drewN | apply below_drew1) | exact HB.out)) hb); have n1_ := Aside0.mk (hbox); have n2_ := Aside0.mk ((by rw [hg]; exact (below_size (by repeat (first | (with_reducible first | exact HB.out | apply below_alloc | apply pw_below_drewN | apply below_drew1) | exact HB.out))) : w.heap.size ≤ gb224)); have n3_ := Aside0.mk ((by rw [hg]; exact (below_size (by repeat (first | (with_reducible first | exact HB.out | apply below_alloc | apply pw_below_drewN | apply below_drew1) | exact HB.out))) : w.heap.size ≤ gb224)); clear HB; have HB := n0_; have BK224 := n1_; have GW224 := n2_; have GE224 := n3_; clear n0_ n1_ n2_ n3_; clear hb hbox hg; have hcz24_0 : w23.cell? ⟨gb224, 0, none⟩ = some (.string a0_0) := (blk_cell BK224.out 0).trans rfl; have hcz24_1 : w23.cell? ⟨gb224, 1, none⟩ = some (.bool false) := (blk_cell BK224.out 1).trans rfl; have hcz24_2 : w23.cell? ⟨gb224, 2, none⟩ = some (.slice A0_2 l0_2.length c0_2) := (blk_cell BK224.out 2).trans rfl; have hfz24_0 := blk_frozen BK224.out 0; have hfz24_1 := blk_frozen BK224.out 1; have hfz24_2 := blk_frozen BK224.out 2)))
      go_loopg [5, 6] k (fun kq v5 v6 w' => ∃ (x5_1 : ByteArray) (x6_1 : Int), v5 = .string x5_1 ∧ v6 = .int .i64 x6_1 ∧ Aside0 (hatchwayref08_Show.l1 kq x5_1 x6_1 a0_0 false l0_2 = some r) ∧ Aside0 (kq ≤ k) ∧ Aside0 (w'.heap[gb224]? = some (.cells #[.string a0_0, .bool false, (.slice A0_2 l0_2.length c0_2)] 43 (0, 0))) ∧ Aside0 (Below w.heap.size w w'))
      case atStart => exact ⟨((⟨#[]⟩ : ByteArray)), (0), (by first | rfl | (simp; done) | (simp [*]; done)), (by first | rfl | (simp; done) | (simp [*]; done)), H', ⟨Nat.le_refl _⟩, ⟨by (with_reducible repeat (first | refine blk_drewN ?_ _ | refine blk_drew ?_ | refine blk_alloc ?_ _)); exact BK224.out⟩, ⟨by repeat (first | (with_reducible first | exact HB.out | apply below_alloc | apply pw_below_drewN | apply below_drew1 | refine below_set ?_ GE224.out) | exact HB.out)⟩⟩
      case round =>
        clear H'
        try clear c1
        try clear c2
        try clear p2
        try clear q2
        try clear hx2
        try clear c5
        try clear c5b0
        try clear c6
        try clear c6b0
        try clear p6
        try clear c7
        try clear c7b0
        try clear c7b1
        try clear c7b2
        try clear c8
        try clear c8b0
        try clear c10
        try clear c10b0
        try clear c10b1
        try clear c10b2
        try clear c13
        try clear c13b0
        try clear c15
        try clear c15b0
        try clear c15b1
        try clear c15b2
        try clear c18
        try clear c18b0
        try clear c18b1
        try clear c18b2
        try clear c20
        try clear c20b0
        try clear c20b1
        try clear c22
        try clear p22
        try clear q22
        try clear hx22
        try clear c24
        try clear hcz11_0
        try clear hcz11_1
        try clear hcz11_2
        try clear hcz16_0
        try clear hcz16_1
        try clear hcz16_2
        try clear hcz19_0
        try clear hcz19_1
        try clear hcz19_2
        try clear hcz22_0
        try clear hcz22_1
        try clear hcz22_2
        try clear hcz24_0
        try clear hcz24_1
        try clear hcz24_2
        try clear hcz4_0
        try clear hcz4_1
        try clear hcz4_2
        try clear hfz11_0
        try clear hfz11_1
        try clear hfz11_2
        try clear hfz16_0
        try clear hfz16_1
        try clear hfz16_2
        try clear hfz19_0
        try clear hfz19_1
        try clear hfz19_2
        try clear hfz22_0
        try clear hfz22_1
        try clear hfz22_2
        try clear hfz24_0
        try clear hfz24_1
        try clear hfz24_2
        try clear hfz4_0
        try clear hfz4_1
        try clear hfz4_2
        try clear hx225_0
        try clear hx225_1
        try clear hx225_2
        try clear hx227_0
        try clear hx227_1
        try clear hx227_2
        try clear p2
        try clear p225
        try clear p227
        try clear q225
        try clear q227
        obtain ⟨x5_1, x6_1, rfl, rfl, HA, HK1, BK224, HB⟩ := hrel
        cases gk with
        | zero => exact absurd HA.out (by simp [hatchwayref08_Show.l1])
        | succ k1 =>
          have H := HA.out
          clear HA
          simp only [hatchwayref08_Show.l1] at H
          by_cases c25 : x6_1 < (a0_0.size : Int)
          · rw [if_pos c25] at H
            have c25b0 : decide (x6_1 < (a0_0.size : Int)) = true := decide_eq_true c25
            clear c25
            by_cases c26 : 0 ≤ x6_1
            · rw [if_pos c26] at H
              have c26b0 : decide (0 ≤ x6_1) = true := decide_eq_true c26
              clear c26
              obtain ⟨ji29, hji29⟩ : ∃ j_ : Int, (wrap64 (Int.tdiv (wrap64 (bt a0_0 x6_1)) 16)) = j_ := ⟨_, rfl⟩
              replace H : (if 0 ≤ (ji29) then (if (ji29) ≤ (wrap64 ((ji29) + 1)) then (if (wrap64 ((ji29) + 1)) ≤ 16 then (if x5_1.size + ((⟨#[48, 49, 50, 51, 52, 53, 54, 55, 56, 57, 97, 98, 99, 100, 101, 102]⟩ : ByteArray).extract ((ji29) : Int).toNat ((wrap64 ((ji29) + 1)) : Int).toNat).size ≤ 9223372036854775807 then (if 0 ≤ (Int.tmod (wrap64 (bt a0_0 x6_1)) 16) then (if (Int.tmod (wrap64 (bt a0_0 x6_1)) 16) ≤ (wrap64 ((Int.tmod (wrap64 (bt a0_0 x6_1)) 16) + 1)) then (if (wrap64 ((Int.tmod (wrap64 (bt a0_0 x6_1)) 16) + 1)) ≤ 16 then (if (x5_1 ++ ((⟨#[48, 49, 50, 51, 52, 53, 54, 55, 56, 57, 97, 98, 99, 100, 101, 102]⟩ : ByteArray).extract ((ji29) : Int).toNat ((wrap64 ((ji29) + 1)) : Int).toNat)).size + ((⟨#[48, 49, 50, 51, 52, 53, 54, 55, 56, 57, 97, 98, 99, 100, 101, 102]⟩ : ByteArray).extract ((Int.tmod (wrap64 (bt a0_0 x6_1)) 16) : Int).toNat ((wrap64 ((Int.tmod (wrap64 (bt a0_0 x6_1)) 16) + 1)) : Int).toNat).size ≤ 9223372036854775807 then (hatchwayref08_Show.l1 k1 ((x5_1 ++ ((⟨#[48, 49, 50, 51, 52, 53, 54, 55, 56, 57, 97, 98, 99, 100, 101, 102]⟩ : ByteArray).extract ((ji29) : Int).toNat ((wrap64 ((ji29) + 1)) : Int).toNat)) ++ ((⟨#[48, 49, 50, 51, 52, 53, 54, 55, 56, 57, 97, 98, 99, 100, 101, 102]⟩ : ByteArray).extract ((Int.tmod (wrap64 (bt a0_0 x6_1)) 16) : Int).toNat ((wrap64 ((Int.tmod (wrap64 (bt a0_0 x6_1)) 16) + 1)) : Int).toNat)) (wrap64 (x6_1 + 1)) a0_0 false l0_2) else (none)) else (none)) else (none)) else (none)) else (none)) else (none)) else (none)) else (none)) = some r := by first | (rw [hji29] at H; exact H) | (simp only [hji29] at H ⊢; exact H)
              have hji29w : (IntKind.i64.wrap (Int.tdiv (wrap64 (bt a0_0 x6_1)) 16)) = ji29 := (i64_w _).trans hji29
              by_cases c30 : 0 ≤ (ji29)
              · rw [if_pos c30] at H
                have c30b0 := eq_true c30
                have c30b1 : decide (0 ≤ (ji29)) = true := decide_eq_true c30
                clear c30
                by_cases c31 : (ji29) ≤ (wrap64 ((ji29) + 1))
                · rw [if_pos c31] at H
                  have c31b0 := eq_true c31
                  have c31b1 : decide ((ji29) ≤ (wrap64 ((ji29) + 1))) = true := decide_eq_true c31
                  by_cases c32 : (wrap64 ((ji29) + 1)) ≤ 16
                  · rw [if_pos c32] at H
                    have c32b0 := eq_true c32
                    have c32b1 : decide ((wrap64 ((ji29) + 1)) ≤ 16) = true := decide_eq_true c32
                    by_cases c33 : x5_1.size + ((⟨#[48, 49, 50, 51, 52, 53, 54, 55, 56, 57, 97, 98, 99, 100, 101, 102]⟩ : ByteArray).extract ((ji29) : Int).toNat ((wrap64 ((ji29) + 1)) : Int).toNat).size ≤ 9223372036854775807
                    · rw [if_pos c33] at H
                      have c33b0 := eq_true c33
                      have c33b1 : decide (x5_1.size + ((⟨#[48, 49, 50, 51, 52, 53, 54, 55, 56, 57, 97, 98, 99, 100, 101, 102]⟩ : ByteArray).extract ((ji29) : Int).toNat ((wrap64 ((ji29) + 1)) : Int).toNat).size ≤ 9223372036854775807) = true := decide_eq_true c33
                      try have c33b2 : (9223372036854775807 < x5_1.size + ((⟨#[48, 49, 50, 51, 52, 53, 54, 55, 56, 57, 97, 98, 99, 100, 101, 102]⟩ : ByteArray).extract ((ji29) : Int).toNat ((wrap64 ((ji29) + 1)) : Int).toNat).size) = False := eq_false (Nat.not_lt.2 c33)
                      obtain ⟨ji34, hji34⟩ : ∃ j_ : Int, (Int.tmod (wrap64 (bt a0_0 x6_1)) 16) = j_ := ⟨_, rfl⟩
                      replace H : (if 0 ≤ (ji34) then (if (ji34) ≤ (wrap64 ((ji34) + 1)) then (if (wrap64 ((ji34) + 1)) ≤ 16 then (if (x5_1 ++ ((⟨#[48, 49, 50, 51, 52, 53, 54, 55, 56, 57, 97, 98, 99, 100, 101, 102]⟩ : ByteArray).extract ((ji29) : Int).toNat ((wrap64 ((ji29) + 1)) : Int).toNat)).size + ((⟨#[48, 49, 50, 51, 52, 53, 54, 55, 56, 57, 97, 98, 99, 100, 101, 102]⟩ : ByteArray).extract ((ji34) : Int).toNat ((wrap64 ((ji34) + 1)) : Int).toNat).size ≤ 9223372036854775807 then (hatchwayref08_Show.l1 k1 ((x5_1 ++ ((⟨#[48, 49, 50, 51, 52, 53, 54, 55, 56, 57, 97, 98, 99, 100, 101, 102]⟩ : ByteArray).extract ((ji29) : Int).toNat ((wrap64 ((ji29) + 1)) : Int).toNat)) ++ ((⟨#[48, 49, 50, 51, 52, 53, 54, 55, 56, 57, 97, 98, 99, 100, 101, 102]⟩ : ByteArray).extract ((ji34) : Int).toNat ((wrap64 ((ji34) + 1)) : Int).toNat)) (wrap64 (x6_1 + 1)) a0_0 false l0_2) else (none)) else (none)) else (none)) else (none)) = some r := by first | (rw [hji34] at H; exact H) | (simp only [hji34] at H ⊢; exact H)
                      by_cases c35 : 0 ≤ (ji34)
                      · rw [if_pos c35] at H
                        have c35b0 := eq_true c35
                        have c35b1 : decide (0 ≤ (ji34)) = true := decide_eq_true c35
                        clear c35
                        by_cases c36 : (ji34) ≤ (wrap64 ((ji34) + 1))
                        · rw [if_pos c36] at H
                          have c36b0 := eq_true c36
                          have c36b1 : decide ((ji34) ≤ (wrap64 ((ji34) + 1))) = true := decide_eq_true c36
                          by_cases c37 : (wrap64 ((ji34) + 1)) ≤ 16
                          · rw [if_pos c37] at H
                            have c37b0 := eq_true c37
                            have c37b1 : decide ((wrap64 ((ji34) + 1)) ≤ 16) = true := decide_eq_true c37
                            by_cases c38 : (x5_1 ++ ((⟨#[48, 49, 50, 51, 52, 53, 54, 55, 56, 57, 97, 98, 99, 100, 101, 102]⟩ : ByteArray).extract ((ji29) : Int).toNat ((wrap64 ((ji29) + 1)) : Int).toNat)).size + ((⟨#[48, 49, 50, 51, 52, 53, 54, 55, 56, 57, 97, 98, 99, 100, 101, 102]⟩ : ByteArray).extract ((ji34) : Int).toNat ((wrap64 ((ji34) + 1)) : Int).toNat).size ≤ 9223372036854775807
                            · rw [if_pos c38] at H
                              have c38b0 := eq_true c38
                              have c38b1 : decide ((x5_1 ++ ((⟨#[48, 49, 50, 51, 52, 53, 54, 55, 56, 57, 97, 98, 99, 100, 101, 102]⟩ : ByteArray).extract ((ji29) : Int).toNat ((wrap64 ((ji29) + 1)) : Int).toNat)).size + ((⟨#[48, 49, 50, 51, 52, 53, 54, 55, 56, 57, 97, 98, 99, 100, 101, 102]⟩ : ByteArray).extract ((ji34) : Int).toNat ((wrap64 ((ji34) + 1)) : Int).toNat).size ≤ 9223372036854775807) = true := decide_eq_true c38
                              try have c38b2 : (9223372036854775807 < (x5_1 ++ ((⟨#[48, 49, 50, 51, 52, 53, 54, 55, 56, 57, 97, 98, 99, 100, 101, 102]⟩ : ByteArray).extract ((ji29) : Int).toNat ((wrap64 ((ji29) + 1)) : Int).toNat)).size + ((⟨#[48, 49, 50, 51, 52, 53, 54, 55, 56, 57, 97, 98, 99, 100, 101, 102]⟩ : ByteArray).extract ((ji34) : Int).toNat ((wrap64 ((ji34) + 1)) : Int).toNat).size) = False := eq_false (Nat.not_lt.2 c38)
                              have H' := Aside0.mk H
                              clear H
                              have hcz39_0 : wr.cell? ⟨gb224, 0, none⟩ = some (.string a0_0) := (blk_cell BK224.out 0).trans rfl
                              have hcz39_1 : wr.cell? ⟨gb224, 1, none⟩ = some (.bool false) := (blk_cell BK224.out 1).trans rfl
                              have hcz39_2 : wr.cell? ⟨gb224, 2, none⟩ = some (.slice A0_2 l0_2.length c0_2) := (blk_cell BK224.out 2).trans rfl
                              have hfz39_0 := blk_frozen BK224.out 0
                              have hfz39_1 := blk_frozen BK224.out 1
                              have hfz39_2 := blk_frozen BK224.out 2
                              have p27 : 0 ≤ (x6_1 : Int) := of_decide_eq_true (by first | (with_reducible assumption) | assumption)
                              have q27 : x6_1 < (a0_0.size : Int) := of_decide_eq_true (by first | (with_reducible assumption) | assumption)
                              have hx27 := bt_at a0_0 x6_1
                              replace p27 := eq_true p27
                              replace q27 := eq_true q27
                              have p28 : 0 ≤ (x6_1 : Int) := of_decide_eq_true (by first | (with_reducible assumption) | assumption)
                              have q28 : x6_1 < (a0_0.size : Int) := of_decide_eq_true (by first | (with_reducible assumption) | assumption)
                              have hx28 := bt_at a0_0 x6_1
                              replace p28 := eq_true p28
                              replace q28 := eq_true q28
                              go_wp2
                              repeat (go_quiet (fail); try go_wp2)
                              go_roundg k1
                              case measure => have := HK1.out; omega
                              case rel => exact ⟨((x5_1 ++ ((⟨#[48, 49, 50, 51, 52, 53, 54, 55, 56, 57, 97, 98, 99, 100, 101, 102]⟩ : ByteArray).extract ((ji29) : Int).toNat ((wrap64 ((ji29) + 1)) : Int).toNat)) ++ ((⟨#[48, 49, 50, 51, 52, 53, 54, 55, 56, 57, 97, 98, 99, 100, 101, 102]⟩ : ByteArray).extract ((ji34) : Int).toNat ((wrap64 ((ji34) + 1)) : Int).toNat)), (wrap64 (x6_1 + 1)), (by first | rfl | (simp; done) | (simp only [← hji29, ← hji34] <;> (first | rfl | simp)) | (simp [*]; done)), (by first | rfl | (simp; done) | (simp [*]; done)), H', ⟨by have := HK1.out; omega⟩, ⟨by (with_reducible repeat (first | refine blk_drewN ?_ _ | refine blk_drew ?_ | refine blk_alloc ?_ _)); exact BK224.out⟩, ⟨by repeat (first | (with_reducible first | exact HB.out | apply below_alloc | apply pw_below_drewN | apply below_drew1 | refine below_set ?_ GE224.out) | exact HB.out)⟩⟩
                            · rw [if_neg c38] at H
                              exact absurd H (by simp)
                          · rw [if_neg c37] at H
                            exact absurd H (by simp)
                        · rw [if_neg c36] at H
                          exact absurd H (by simp)
                      · rw [if_neg c35] at H
                        exact absurd H (by simp)
                    · rw [if_neg c33] at H
                      exact absurd H (by simp)
                  · rw [if_neg c32] at H
                    exact absurd H (by simp)
                · rw [if_neg c31] at H
                  exact absurd H (by simp)
              · rw [if_neg c30] at H
                exact absurd H (by simp)
            · rw [if_neg c26] at H
              exact absurd H (by simp)
          · rw [if_neg c25] at H
            have c25b0 : decide (x6_1 < (a0_0.size : Int)) = false := decide_eq_false c25
            clear c25
            obtain rfl := Option.some.inj H
            have hcz40_0 : wr.cell? ⟨gb224, 0, none⟩ = some (.string a0_0) := (blk_cell BK224.out 0).trans rfl
            have hcz40_1 : wr.cell? ⟨gb224, 1, none⟩ = some (.bool false) := (blk_cell BK224.out 1).trans rfl
            have hcz40_2 : wr.cell? ⟨gb224, 2, none⟩ = some (.slice A0_2 l0_2.length c0_2) := (blk_cell BK224.out 2).trans rfl
            have hfz40_0 := blk_frozen BK224.out 0
            have hfz40_1 := blk_frozen BK224.out 1
            have hfz40_2 := blk_frozen BK224.out 2
            go_wp2
            repeat (go_quiet (fail); try go_wp2)
            go_ret
            exact ⟨by first | rfl | (simp [errW_none, errW_some] <;> rfl) | (simp [*, errW_none, errW_some] <;> rfl), by repeat (first | (with_reducible first | exact HB.out | apply below_alloc | apply pw_below_drewN | apply below_drew1 | refine below_set ?_ GE224.out) | exact HB.out)⟩

-- NOT PRINTED: function 6 (hatchwaylaw08_ItemShows)

/-! ### item_copied: function 43 -/
mutual
def item_copied.l0 : Nat → List (S43) → Int → Int → ByteArray → Bool → List (S43) → Option (ByteArray × Bool × (List (S43)))
  | 0, _, _, _, _, _, _ => none
  | k + 1, x12, x13, x14, x235000, x235001, x235002 => if x14 < x13 then (if 0 ≤ x14 then (if x14 < (x12.length : Int) then ((item_copied.f k ((rd_T43 x12 x14).f0) ((rd_T43 x12 x14).f1) ((rd_T43 x12 x14).f2)).bind fun bt237 => (if x235002.length < 2932031007402 then (item_copied.l0 k x12 x13 (wrap64 (x14 + 1)) x235000 x235001 (x235002 ++ [(⟨bt237.1, bt237.2.1, bt237.2.2⟩ : S43)])) else (none))) else (none)) else (none)) else (some (x235000, x235001, x235002))
def item_copied.f : Nat → ByteArray → Bool → List (S43) → Option (ByteArray × Bool × (List (S43)))
  | 0, _, _, _ => none
  | k + 1, a0_0, a0_1, l0_2 => item_copied.l0 k l0_2 (l0_2.length : Int) 0 a0_0 a0_1 ([] : List (S43))
end
theorem item_copied.mono_l : ∀ k, (∀ y0 y1 y2, LeO (item_copied.f k y0 y1 y2) (item_copied.f (k + 1) y0 y1 y2)) ∧ (∀ y0 y1 y2 y3 y4 y5, LeO (item_copied.l0 k y0 y1 y2 y3 y4 y5) (item_copied.l0 (k + 1) y0 y1 y2 y3 y4 y5))
  | 0 => ⟨fun _ _ _ r h => by simp [item_copied.f] at h, fun _ _ _ _ _ _ r h => by simp [item_copied.l0] at h⟩
  | k + 1 => by
    obtain ⟨ih0, ih1⟩ := item_copied.mono_l k
    refine ⟨?_, ?_⟩
    · intro y0 y1 y2
      unfold item_copied.f
      repeat' first
      | (with_reducible exact ih0 _ _ _)
      | (with_reducible exact ih1 _ _ _ _ _ _)
      | (with_reducible exact LeO.refl _)
      | (with_reducible exact LeO.none _)
      | (with_reducible refine LeO.ite ?_ ?_)
      | (with_reducible refine LeO.bind ?_ (fun _ => ?_))
      | exact ih0 _ _ _
      | exact ih1 _ _ _ _ _ _
      | exact LeO.none _
      | refine LeO.ite ?_ ?_
      | refine LeO.bind ?_ (fun _ => ?_)
    · intro y0 y1 y2 y3 y4 y5
      unfold item_copied.l0
      repeat' first
      | (with_reducible exact ih0 _ _ _)
      | (with_reducible exact ih1 _ _ _ _ _ _)
      | (with_reducible exact LeO.refl _)
      | (with_reducible exact LeO.none _)
      | (with_reducible refine LeO.ite ?_ ?_)
      | (with_reducible refine LeO.bind ?_ (fun _ => ?_))
      | exact ih0 _ _ _
      | exact ih1 _ _ _ _ _ _
      | exact LeO.none _
      | refine LeO.ite ?_ ?_
      | refine LeO.bind ?_ (fun _ => ?_)
theorem item_copied.mono : ∀ a0 a1 a2 k, LeO (item_copied.f k a0 a1 a2) (item_copied.f (k + 1) a0 a1 a2) := by
  intro a0 a1 a2 k
  obtain ⟨ih0, ih1⟩ := item_copied.mono_l k
  exact ih0 a0 a1 a2
def item_copied.T5 : Bool × List (List Nat × List Nat) := (true, [([], []), ([0], [0]), ([], []), ([2], [2]), ([3], [3]), ([1, 4, 3], [1, 4]), ([0, 1, 2, 3, 4, 5], []), ([6, 5, 5, 0, 1, 2, 3, 4, 5], [5, 6])])
def item_copied.B5 : List Nat := [0, 1, 0, 4, 12, 31, 63, 127]
theorem item_copied.tab5 : rtab .any (opsOf Try.f43 5) = item_copied.T5 := by kernel_rfl
theorem item_copied.bits5 : waitsOk item_copied.T5.2 item_copied.B5 = true := by kernel_rfl
set_option maxHeartbeats 8000000 in
set_option maxRecDepth 100000 in
theorem item_copied.calls (k : Nat) : ∀ (a0_0 : ByteArray) (a0_1 : Bool) (A0_2 : Option Addr) (c0_2 : Nat) (l0_2 : List (S43)) (r1 : ByteArray) (r2 : Bool) (r3 : List (S43)) (w : World) (hr0_2 : Kd.C k43 w A0_2 l0_2.length l0_2) (hc0_2 : l0_2.length ≤ c0_2) (h : item_copied.f k a0_0 a0_1 l0_2 = some (r1, r2, r3)),
    Calls Try.prog 43 #[.agg #[.string a0_0, .bool a0_1, .slice A0_2 l0_2.length c0_2]] w fun e w' => ∃ v2_ : Value, e = .returned (.agg #[.string r1, .bool r2, v2_]) ∧ Kd.R k43 43 w' w.heap.size (fun _ => True) v2_ r3 ∧ Below w.heap.size w w' := by
  induction k using Nat.strongRecOn with
  | _ k ih =>
  intro a0_0 a0_1 A0_2 c0_2 l0_2 r1 r2 r3 w hr0_2 hc0_2 h
  cases k with
  | zero => exact absurd h (by simp [item_copied.f])
  | succ k =>
  simp only [item_copied.f] at h
  have hu43 := Try.underlying43
  have HR0_2 := Aside0.mk hr0_2
  have HC0_2 := Aside0.mk hc0_2
  clear hr0_2 hc0_2
  have HB := Aside0.mk (Below.refl w.heap.size w)
  have H : (item_copied.l0 k l0_2 (l0_2.length : Int) 0 a0_0 a0_1 ([] : List (S43))) = some (r1, r2, r3) := h
  clear h
  have H' := Aside0.mk H
  clear H
  go_enter Try.func43, Try.ntmps43
  go_wp2_with (first | ((with_reducible refine gate_dst (N := 1) rfl ?_); refine box_event ?hg (N := 1) ?hd (cs := #[.string a0_0, .bool a0_1, .slice A0_2 l0_2.length c0_2]) (t := 43) ?hr ?_; (case hd => rfl); (case hg => rfl); (case hr => first | (go_simp; done) | (go_simp; rfl)); intro gb232 hg w2 hbox hb; have n0_ := Aside0.mk (below_step (by repeat (first | (with_reducible first | exact HB.out | apply below_alloc | apply pw_below_drewN | apply below_drew1) | exact HB.out)) hb); have n1_ := Aside0.mk (hbox); have n2_ := Aside0.mk ((by rw [hg]; exact (below_size (by repeat (first | (with_reducible first | exact HB.out | apply below_alloc | apply pw_below_drewN | apply below_drew1) | exact HB.out))) : w.heap.size ≤ gb232)); have n3_ := Aside0.mk ((by rw [hg]; exact (below_size (by repeat (first | (with_reducible first | exact HB.out | apply below_alloc | apply pw_below_drewN | apply below_drew1) | exact HB.out))) : w.heap.size ≤ gb232)); clear HB; have HB := n0_; have BK232 := n1_; have GW232 := n2_; have GE232 := n3_; clear n0_ n1_ n2_ n3_; clear hb hbox hg) | ((with_reducible refine gate_dst (N := 2) rfl ?_); refine box_event ?hg (N := 2) ?hd (cs := #[.string (⟨#[]⟩ : ByteArray), .bool false, .slice none 0 0]) (t := 43) ?hr ?_; (case hd => rfl); (case hg => rfl); (case hr => first | (go_simp; done) | (go_simp; rfl)); intro gb233 hg w3 hbox hb; have n0_ := Aside0.mk (blk_below (g := gb232) (o := .cells #[.string a0_0, .bool a0_1, .slice A0_2 l0_2.length c0_2] 43 (0, 0)) (by (with_reducible repeat (first | refine blk_drewN ?_ _ | refine blk_drew ?_ | refine blk_alloc ?_ _)); exact BK232.out) hb); have n1_ := Aside0.mk (below_step (by repeat (first | (with_reducible first | exact HB.out | apply below_alloc | apply pw_below_drewN | apply below_drew1 | refine below_set ?_ GE232.out) | exact HB.out)) hb); have n2_ := Aside0.mk (hbox); have n3_ := Aside0.mk ((by rw [hg]; exact (below_size (by repeat (first | (with_reducible first | exact HB.out | apply below_alloc | apply pw_below_drewN | apply below_drew1 | refine below_set ?_ GE232.out) | exact HB.out))) : w.heap.size ≤ gb233)); have n4_ := Aside0.mk ((by rw [hg]; exact (below_size (by repeat (first | (with_reducible first | exact HB.out | apply below_alloc | apply pw_below_drewN | apply below_drew1 | refine below_set ?_ GE232.out) | exact HB.out))) : w.heap.size ≤ gb233)); have n5_ := Aside0.mk ((by rw [hg]; exact Nat.ne_of_lt (blk_lt (g := gb232) (o := .cells #[.string a0_0, .bool a0_1, .slice A0_2 l0_2.length c0_2] 43 (0, 0)) (by (with_reducible repeat (first | refine blk_drewN ?_ _ | refine blk_drew ?_ | refine blk_alloc ?_ _)); exact BK232.out)) : gb232 ≠ gb233)); have n6_ := Aside0.mk ((by rw [hg]; exact Nat.ne_of_gt (blk_lt (g := gb232) (o := .cells #[.string a0_0, .bool a0_1, .slice A0_2 l0_2.length c0_2] 43 (0, 0)) (by (with_reducible repeat (first | refine blk_drewN ?_ _ | refine blk_drew ?_ | refine blk_alloc ?_ _)); exact BK232.out)) : gb233 ≠ gb232)); clear BK232; clear HB; have BK232 := n0_; have HB := n1_; have BK233 := n2_; have GW233 := n3_; have GE233 := n4_; have NB232_233 := n5_; have NB233_232 := n6_; clear n0_ n1_ n2_ n3_ n4_ n5_ n6_; clear hb hbox hg; have hnb4 := NB232_233.out; have hnc4 := NB233_232.out; have hcz5_0 : w3.cell? ⟨gb232, 0, none⟩ = some (.string a0_0) := (blk_cell BK232.out 0).trans rfl; have hcz5_1 : w3.cell? ⟨gb232, 1, none⟩ = some (.bool a0_1) := (blk_cell BK232.out 1).trans rfl; have hcz5_2 : w3.cell? ⟨gb232, 2, none⟩ = some (.slice A0_2 l0_2.length c0_2) := (blk_cell BK232.out 2).trans rfl; have hfz5_0 := blk_frozen BK232.out 0; have hfz5_1 := blk_frozen BK232.out 1; have hfz5_2 := blk_frozen BK232.out 2) | ((with_reducible refine gate_dst (N := 3) rfl ?_); refine box_event ?hg (N := 3) ?hd (cs := #[.string (⟨#[]⟩ : ByteArray), .bool false, .slice none 0 0]) (t := 43) ?hr ?_; (case hd => rfl); (case hg => rfl); (case hr => first | (go_simp; done) | (go_simp; rfl)); intro gb234 hg w6 hbox hb; have n0_ := Aside0.mk (blk_below (g := gb232) (o := .cells #[.string a0_0, .bool a0_1, .slice A0_2 l0_2.length c0_2] 43 (0, 0)) (by (with_reducible repeat (first | refine blk_drewN ?_ _ | refine blk_drew ?_ | refine blk_alloc ?_ _)); exact BK232.out) hb); have n1_ := Aside0.mk (blk_below (g := gb233) (o := .cells #[.string (⟨#[]⟩ : ByteArray), .bool false, .slice none 0 0] 43 (0, 0)) (by (with_reducible repeat (first | refine blk_drewN ?_ _ | refine blk_drew ?_ | refine blk_alloc ?_ _)); exact BK233.out) hb); have n2_ := Aside0.mk (below_step (by repeat (first | (with_reducible first | exact HB.out | apply below_alloc | apply pw_below_drewN | apply below_drew1 | refine below_set ?_ GE232.out | refine below_set ?_ GE233.out) | exact HB.out)) hb); have n3_ := Aside0.mk (hbox); have n4_ := Aside0.mk ((by rw [hg]; exact (below_size (by repeat (first | (with_reducible first | exact HB.out | apply below_alloc | apply pw_below_drewN | apply below_drew1 | refine below_set ?_ GE232.out | refine below_set ?_ GE233.out) | exact HB.out))) : w.heap.size ≤ gb234)); have n5_ := Aside0.mk ((by rw [hg]; exact (below_size (by repeat (first | (with_reducible first | exact HB.out | apply below_alloc | apply pw_below_drewN | apply below_drew1 | refine below_set ?_ GE232.out | refine below_set ?_ GE233.out) | exact HB.out))) : w.heap.size ≤ gb234)); have n6_ := Aside0.mk ((by rw [hg]; exact Nat.ne_of_lt (blk_lt (g := gb232) (o := .cells #[.string a0_0, .bool a0_1, .slice A0_2 l0_2.length c0_2] 43 (0, 0)) (by (with_reducible repeat (first | refine blk_drewN ?_ _ | refine blk_drew ?_ | refine blk_alloc ?_ _)); exact BK232.out)) : gb232 ≠ gb234)); have n7_ := Aside0.mk ((by rw [hg]; exact Nat.ne_of_gt (blk_lt (g := gb232) (o := .cells #[.string a0_0, .bool a0_1, .slice A0_2 l0_2.length c0_2] 43 (0, 0)) (by (with_reducible repeat (first | refine blk_drewN ?_ _ | refine blk_drew ?_ | refine blk_alloc ?_ _)); exact BK232.out)) : gb234 ≠ gb232)); have n8_ := Aside0.mk ((by rw [hg]; exact Nat.ne_of_lt (blk_lt (g := gb233) (o := .cells #[.string (⟨#[]⟩ : ByteArray), .bool false, .slice none 0 0] 43 (0, 0)) (by (with_reducible repeat (first | refine blk_drewN ?_ _ | refine blk_drew ?_ | refine blk_alloc ?_ _)); exact BK233.out)) : gb233 ≠ gb234)); have n9_ := Aside0.mk ((by rw [hg]; exact Nat.ne_of_gt (blk_lt (g := gb233) (o := .cells #[.string (⟨#[]⟩ : ByteArray), .bool false, .slice none 0 0] 43 (0, 0)) (by (with_reducible repeat (first | refine blk_drewN ?_ _ | refine blk_drew ?_ | refine blk_alloc ?_ _)); exact BK233.out)) : gb234 ≠ gb233)); clear BK232; clear BK233; clear HB; have BK232 := n0_; have BK233 := n1_; have HB := n2_; have BK234 := n3_; have GW234 := n4_; have GE234 := n5_; have NB232_234 := n6_; have NB234_232 := n7_; have NB233_234 := n8_; have NB234_233 := n9_; clear n0_ n1_ n2_ n3_ n4_ n5_ n6_ n7_ n8_ n9_; clear hb hbox hg; have hnb7 := NB234_232.out; have hnc7 := NB232_234.out; have hnb8 := NB234_233.out; have hnc8 := NB233_234.out; have hcz9_0 : w6.cell? ⟨gb234, 0, none⟩ = some (.string (⟨#[]⟩ : ByteArray)) := (blk_cell BK234.out 0).trans rfl; have hcz9_1 : w6.cell? ⟨gb234, 1, none⟩ = some (.bool false) := (blk_cell BK234.out 1).trans rfl; have hcz9_2 : w6.cell? ⟨gb234, 2, none⟩ = some (.slice none 0 0) := (blk_cell BK234.out 2).trans rfl; have hfz9_0 := blk_frozen BK234.out 0; have hfz9_1 := blk_frozen BK234.out 1; have hfz9_2 := blk_frozen BK234.out 2; have hcz10_0 : w6.cell? ⟨gb232, 0, none⟩ = some (.string a0_0) := (blk_cell BK232.out 0).trans rfl; have hcz10_1 : w6.cell? ⟨gb232, 1, none⟩ = some (.bool a0_1) := (blk_cell BK232.out 1).trans rfl; have hcz10_2 : w6.cell? ⟨gb232, 2, none⟩ = some (.slice A0_2 l0_2.length c0_2) := (blk_cell BK232.out 2).trans rfl; have hfz10_0 := blk_frozen BK232.out 0; have hfz10_1 := blk_frozen BK232.out 1; have hfz10_2 := blk_frozen BK232.out 2))
  go_loopg [14] k (fun kq v14 w' => ∃ (x14_1 : Int) (x235002_1 : List (S43)) (u235002 : Value), v14 = .int .i64 x14_1 ∧ Aside0 (item_copied.l0 kq l0_2 (l0_2.length : Int) x14_1 a0_0 a0_1 x235002_1 = some (r1, r2, r3)) ∧ Aside0 (kq ≤ k) ∧ Aside0 (Kd.R k43 43 w' w.heap.size (fun k_ => k_ ≠ gb232 ∧ k_ ≠ gb233 ∧ k_ ≠ gb234) u235002 x235002_1) ∧ Aside0 (w'.heap[gb232]? = some (.cells #[.string a0_0, .bool a0_1, (.slice A0_2 l0_2.length c0_2)] 43 (0, 0))) ∧ Aside0 (w'.heap[gb233]? = some (.cells #[.string (⟨#[]⟩ : ByteArray), .bool false, (.slice none 0 0)] 43 (0, 0))) ∧ Aside0 (w'.heap[gb234]? = some (.cells #[.string a0_0, .bool a0_1, u235002] 43 (0, 0))) ∧ Aside0 (Below w.heap.size w w'))
  case atStart => exact ⟨(0), (([] : List (S43))), (.slice none 0 0), (by first | rfl | (simp; done) | (simp [*]; done)), H', ⟨Nat.le_refl _⟩, ⟨by first | exact Kd.R_nil _ _ _ _ _ | exact Kd.N_nil _ _ _ _ _ | exact Kd.V_nil _ _ _ _ _ | exact Kd.Q_nil _ _ _ _ _ | exact Kd.S_nil _ _ _ _ _⟩, ⟨by (with_reducible repeat (first | refine blk_drewN ?_ _ | refine blk_drew ?_ | refine blk_alloc ?_ _)); refine blk_far ?_ NB232_234.out _; (with_reducible repeat (first | refine blk_drewN ?_ _ | refine blk_drew ?_ | refine blk_alloc ?_ _)); refine blk_far ?_ NB232_234.out _; (with_reducible repeat (first | refine blk_drewN ?_ _ | refine blk_drew ?_ | refine blk_alloc ?_ _)); refine blk_far ?_ NB232_234.out _; (with_reducible repeat (first | refine blk_drewN ?_ _ | refine blk_drew ?_ | refine blk_alloc ?_ _)); exact BK232.out⟩, ⟨by (with_reducible repeat (first | refine blk_drewN ?_ _ | refine blk_drew ?_ | refine blk_alloc ?_ _)); refine blk_far ?_ NB233_234.out _; (with_reducible repeat (first | refine blk_drewN ?_ _ | refine blk_drew ?_ | refine blk_alloc ?_ _)); refine blk_far ?_ NB233_234.out _; (with_reducible repeat (first | refine blk_drewN ?_ _ | refine blk_drew ?_ | refine blk_alloc ?_ _)); refine blk_far ?_ NB233_234.out _; (with_reducible repeat (first | refine blk_drewN ?_ _ | refine blk_drew ?_ | refine blk_alloc ?_ _)); exact BK233.out⟩, ⟨by (with_reducible repeat (first | refine blk_drewN ?_ _ | refine blk_drew ?_ | refine blk_alloc ?_ _)); refine blk_put (cs := #[.string a0_0, .bool a0_1, .slice none 0 0]) ?_ 2 _ rfl; (with_reducible repeat (first | refine blk_drewN ?_ _ | refine blk_drew ?_ | refine blk_alloc ?_ _)); refine blk_put (cs := #[.string a0_0, .bool false, .slice none 0 0]) ?_ 1 _ rfl; (with_reducible repeat (first | refine blk_drewN ?_ _ | refine blk_drew ?_ | refine blk_alloc ?_ _)); refine blk_put (cs := #[.string (⟨#[]⟩ : ByteArray), .bool false, .slice none 0 0]) ?_ 0 _ rfl; (with_reducible repeat (first | refine blk_drewN ?_ _ | refine blk_drew ?_ | refine blk_alloc ?_ _)); exact BK234.out⟩, ⟨by repeat (first | (with_reducible first | exact HB.out | apply below_alloc | apply pw_below_drewN | apply below_drew1 | refine below_set ?_ GE232.out | refine below_set ?_ GE233.out | refine below_set ?_ GE234.out) | exact HB.out)⟩⟩
  case round =>
    clear H'
    try clear p2
    try clear c4
    try clear c7
    try clear c8
    try clear hcz10_0
    try clear hcz10_1
    try clear hcz10_2
    try clear hcz5_0
    try clear hcz5_1
    try clear hcz5_2
    try clear hcz9_0
    try clear hcz9_1
    try clear hcz9_2
    try clear hfz10_0
    try clear hfz10_1
    try clear hfz10_2
    try clear hfz5_0
    try clear hfz5_1
    try clear hfz5_2
    try clear hfz9_0
    try clear hfz9_1
    try clear hfz9_2
    obtain ⟨x14_1, x235002_1, u235002, rfl, HA, HK1, HO_235002, BK232, BK233, BK234, HB⟩ := hrel
    cases gk with
    | zero => exact absurd HA.out (by simp [item_copied.l0])
    | succ k1 =>
      have H := HA.out
      clear HA
      simp only [item_copied.l0] at H
      by_cases c11 : x14_1 < (l0_2.length : Int)
      · rw [if_pos c11] at H
        have c11b0 : decide (x14_1 < (l0_2.length : Int)) = true := decide_eq_true c11
        clear c11
        by_cases c12 : 0 ≤ x14_1
        · rw [if_pos c12] at H
          have c12b0 : decide (0 ≤ x14_1) = true := decide_eq_true c12
          clear c12
          by_cases c13 : x14_1 < (l0_2.length : Int)
          · rw [if_pos c13] at H
            have c13b0 : decide (x14_1 < (l0_2.length : Int)) = true := decide_eq_true c13
            clear c13
            replace H := Option.bind_eq_some_iff.mp H
            obtain ⟨⟨t237, t238, t239⟩, A140, H⟩ := H
            replace H : (if x235002_1.length < 2932031007402 then (item_copied.l0 k1 l0_2 (l0_2.length : Int) (wrap64 (x14_1 + 1)) a0_0 a0_1 (x235002_1 ++ [(⟨t237, t238, t239⟩ : S43)])) else (none)) = some (r1, r2, r3) := H
            have A14 := Aside0.mk A140
            clear A140
            by_cases c15 : x235002_1.length < 2932031007402
            · rw [if_pos c15] at H
              have LMc15 := Aside0.mk c15
              clear c15
              obtain ⟨y242, hy242⟩ : ∃ y_ : List (S43), y_ = (x235002_1 ++ [(⟨t237, t238, t239⟩ : S43)]) := ⟨_, rfl⟩
              replace H : (item_copied.l0 k1 l0_2 (l0_2.length : Int) (wrap64 (x14_1 + 1)) a0_0 a0_1 y242) = some (r1, r2, r3) := by first | (rw [hy242]; with_reducible exact H) | (have H2_ := (Option.bind_some _ _).symm.trans H; rw [hy242]; with_reducible exact H2_) | (have H2_ := (Option.bind_some _ _).symm.trans H; with_reducible exact H2_) | with_reducible exact H | (rw [hy242]; exact H) | exact H
              have Ny242 := Aside0.mk hy242
              clear hy242
              have H' := Aside0.mk H
              clear H
              have p235 : 0 ≤ (x14_1 : Int) := of_decide_eq_true (by first | (with_reducible assumption) | assumption)
              have q235 : x14_1 < (l0_2.length : Int) := of_decide_eq_true (by first | (with_reducible assumption) | assumption)
              obtain ⟨ad235, A235_2, c235_2, e235, hx235_0, hx235_1, hx235_2, hl235_2, hi235_2⟩ := at_T43 HR0_2.out x14_1 p235 q235
              cases e235
              replace hx235_0 := (HB.out.cell (World.block_lt_of_cell? w _ hx235_0)).trans hx235_0
              replace hx235_1 := (HB.out.cell (World.block_lt_of_cell? w _ hx235_1)).trans hx235_1
              replace hx235_2 := (HB.out.cell (World.block_lt_of_cell? w _ hx235_2)).trans hx235_2
              have HR235_2 := Aside0.mk hi235_2
              have HC235_2 := Aside0.mk hl235_2
              clear hi235_2 hl235_2
              replace p235 := eq_true p235
              replace q235 := eq_true q235
              try go_wp2_with (first | ((with_reducible refine gate_dst (N := 5) rfl ?_); refine box_event ?hg (N := 5) ?hd (cs := #[.string (⟨#[]⟩ : ByteArray), .bool false, .slice none 0 0]) (t := 43) ?hr ?_; (case hd => rfl); (case hg => rfl); (case hr => first | (go_simp; done) | (go_simp; rfl)); intro gb236 hg w16 hbox hb; have n0_ := Aside0.mk (Kd.R_below (Kd.R_elderB (by (with_reducible repeat (first | apply Kd.R_alloc | apply Kd.R_drewN | apply Kd.R_drew)); exact HO_235002.out) gb236 (Nat.le_of_eq hg.symm)) hb); have n1_ := Aside0.mk (blk_below (g := gb232) (o := .cells #[.string a0_0, .bool a0_1, .slice (some ad235) l0_2.length c0_2] 43 (0, 0)) (by (with_reducible repeat (first | refine blk_drewN ?_ _ | refine blk_drew ?_ | refine blk_alloc ?_ _)); exact BK232.out) hb); have n2_ := Aside0.mk (blk_below (g := gb233) (o := .cells #[.string (⟨#[]⟩ : ByteArray), .bool false, .slice none 0 0] 43 (0, 0)) (by (with_reducible repeat (first | refine blk_drewN ?_ _ | refine blk_drew ?_ | refine blk_alloc ?_ _)); exact BK233.out) hb); have n3_ := Aside0.mk (blk_below (g := gb234) (o := .cells #[.string a0_0, .bool a0_1, u235002] 43 (0, 0)) (by (with_reducible repeat (first | refine blk_drewN ?_ _ | refine blk_drew ?_ | refine blk_alloc ?_ _)); exact BK234.out) hb); have n4_ := Aside0.mk (below_step (by repeat (first | (with_reducible first | exact HB.out | apply below_alloc | apply pw_below_drewN | apply below_drew1 | refine below_set ?_ GE232.out | refine below_set ?_ GE233.out | refine below_set ?_ GE234.out) | exact HB.out)) hb); have n5_ := Aside0.mk (hbox); have n6_ := Aside0.mk ((by rw [hg]; exact (below_size (by repeat (first | (with_reducible first | exact HB.out | apply below_alloc | apply pw_below_drewN | apply below_drew1 | refine below_set ?_ GE232.out | refine below_set ?_ GE233.out | refine below_set ?_ GE234.out) | exact HB.out))) : w.heap.size ≤ gb236)); have n7_ := Aside0.mk ((by rw [hg]; exact (below_size (by repeat (first | (with_reducible first | exact HB.out | apply below_alloc | apply pw_below_drewN | apply below_drew1 | refine below_set ?_ GE232.out | refine below_set ?_ GE233.out | refine below_set ?_ GE234.out) | exact HB.out))) : w.heap.size ≤ gb236)); have n8_ := Aside0.mk ((by rw [hg]; exact Nat.ne_of_lt (blk_lt (g := gb232) (o := .cells #[.string a0_0, .bool a0_1, .slice (some ad235) l0_2.length c0_2] 43 (0, 0)) (by (with_reducible repeat (first | refine blk_drewN ?_ _ | refine blk_drew ?_ | refine blk_alloc ?_ _)); exact BK232.out)) : gb232 ≠ gb236)); have n9_ := Aside0.mk ((by rw [hg]; exact Nat.ne_of_gt (blk_lt (g := gb232) (o := .cells #[.string a0_0, .bool a0_1, .slice (some ad235) l0_2.length c0_2] 43 (0, 0)) (by (with_reducible repeat (first | refine blk_drewN ?_ _ | refine blk_drew ?_ | refine blk_alloc ?_ _)); exact BK232.out)) : gb236 ≠ gb232)); have n10_ := Aside0.mk ((by rw [hg]; exact Nat.ne_of_lt (blk_lt (g := gb233) (o := .cells #[.string (⟨#[]⟩ : ByteArray), .bool false, .slice none 0 0] 43 (0, 0)) (by (with_reducible repeat (first | refine blk_drewN ?_ _ | refine blk_drew ?_ | refine blk_alloc ?_ _)); exact BK233.out)) : gb233 ≠ gb236)); have n11_ := Aside0.mk ((by rw [hg]; exact Nat.ne_of_gt (blk_lt (g := gb233) (o := .cells #[.string (⟨#[]⟩ : ByteArray), .bool false, .slice none 0 0] 43 (0, 0)) (by (with_reducible repeat (first | refine blk_drewN ?_ _ | refine blk_drew ?_ | refine blk_alloc ?_ _)); exact BK233.out)) : gb236 ≠ gb233)); have n12_ := Aside0.mk ((by rw [hg]; exact Nat.ne_of_lt (blk_lt (g := gb234) (o := .cells #[.string a0_0, .bool a0_1, u235002] 43 (0, 0)) (by (with_reducible repeat (first | refine blk_drewN ?_ _ | refine blk_drew ?_ | refine blk_alloc ?_ _)); exact BK234.out)) : gb234 ≠ gb236)); have n13_ := Aside0.mk ((by rw [hg]; exact Nat.ne_of_gt (blk_lt (g := gb234) (o := .cells #[.string a0_0, .bool a0_1, u235002] 43 (0, 0)) (by (with_reducible repeat (first | refine blk_drewN ?_ _ | refine blk_drew ?_ | refine blk_alloc ?_ _)); exact BK234.out)) : gb236 ≠ gb234)); clear HO_235002; clear BK232; clear BK233; clear BK234; clear HB; have HO_235002 := n0_; have BK232 := n1_; have BK233 := n2_; have BK234 := n3_; have HB := n4_; have BK236 := n5_; have GW236 := n6_; have GE236 := n7_; have NB232_236 := n8_; have NB236_232 := n9_; have NB233_236 := n10_; have NB236_233 := n11_; have NB234_236 := n12_; have NB236_234 := n13_; clear n0_ n1_ n2_ n3_ n4_ n5_ n6_ n7_ n8_ n9_ n10_ n11_ n12_ n13_; clear hb hbox hg; have hnb17 := NB236_232.out; have hnc17 := NB232_236.out; have hnb18 := NB236_233.out; have hnc18 := NB233_236.out; have hnb19 := NB236_234.out; have hnc19 := NB234_236.out; have hcz20_0 : w16.cell? ⟨gb236, 0, none⟩ = some (.string (⟨#[]⟩ : ByteArray)) := (blk_cell BK236.out 0).trans rfl; have hcz20_1 : w16.cell? ⟨gb236, 1, none⟩ = some (.bool false) := (blk_cell BK236.out 1).trans rfl; have hcz20_2 : w16.cell? ⟨gb236, 2, none⟩ = some (.slice none 0 0) := (blk_cell BK236.out 2).trans rfl; have hfz20_0 := blk_frozen BK236.out 0; have hfz20_1 := blk_frozen BK236.out 1; have hfz20_2 := blk_frozen BK236.out 2))
              have n0_ : Aside0 (Kd.R k43 43 (((w16.setCell ⟨gb236, 0, none⟩ (.string ((rd_T43 l0_2 x14_1).f0))).setCell ⟨gb236, 1, none⟩ (.bool ((rd_T43 l0_2 x14_1).f1))).setCell ⟨gb236, 2, none⟩ (.slice A235_2 ((rd_T43 l0_2 x14_1).f2).length c235_2)) w.heap.size (fun k_ => k_ ≠ gb232 ∧ k_ ≠ gb233 ∧ k_ ≠ gb234 ∧ k_ ≠ gb236) u235002 x235002_1) := ⟨by (with_reducible repeat (first | apply Kd.R_alloc | apply Kd.R_drewN | apply Kd.R_drew)); exact Kd.R_mono (Kd.R_far (p := ⟨gb236, 2, none⟩) (Kd.R_far (p := ⟨gb236, 1, none⟩) (Kd.R_far (p := ⟨gb236, 0, none⟩) (Kd.R_mono HO_235002.out (fun k_ hk => (⟨hk, hk.2⟩ : _ ∧ k_ ≠ gb236))) (fun _ hk => hk.2) (.string ((rd_T43 l0_2 x14_1).f0))) (fun _ hk => hk.2) (.bool ((rd_T43 l0_2 x14_1).f1))) (fun _ hk => hk.2) (.slice A235_2 ((rd_T43 l0_2 x14_1).f2).length c235_2)) (fun _ hk => ⟨hk.1.1.1, ⟨hk.1.1.2.1, ⟨hk.1.1.2.2, hk.1.2⟩⟩⟩)⟩
              have n1_ : Aside0 ((((w16.setCell ⟨gb236, 0, none⟩ (.string ((rd_T43 l0_2 x14_1).f0))).setCell ⟨gb236, 1, none⟩ (.bool ((rd_T43 l0_2 x14_1).f1))).setCell ⟨gb236, 2, none⟩ (.slice A235_2 ((rd_T43 l0_2 x14_1).f2).length c235_2)).heap[gb232]? = some (.cells #[.string a0_0, .bool a0_1, .slice (some ad235) l0_2.length c0_2] 43 (0, 0))) := ⟨by (with_reducible repeat (first | refine blk_drewN ?_ _ | refine blk_drew ?_ | refine blk_alloc ?_ _)); refine blk_far ?_ NB232_236.out _; (with_reducible repeat (first | refine blk_drewN ?_ _ | refine blk_drew ?_ | refine blk_alloc ?_ _)); refine blk_far ?_ NB232_236.out _; (with_reducible repeat (first | refine blk_drewN ?_ _ | refine blk_drew ?_ | refine blk_alloc ?_ _)); refine blk_far ?_ NB232_236.out _; (with_reducible repeat (first | refine blk_drewN ?_ _ | refine blk_drew ?_ | refine blk_alloc ?_ _)); exact BK232.out⟩
              have n2_ : Aside0 ((((w16.setCell ⟨gb236, 0, none⟩ (.string ((rd_T43 l0_2 x14_1).f0))).setCell ⟨gb236, 1, none⟩ (.bool ((rd_T43 l0_2 x14_1).f1))).setCell ⟨gb236, 2, none⟩ (.slice A235_2 ((rd_T43 l0_2 x14_1).f2).length c235_2)).heap[gb233]? = some (.cells #[.string (⟨#[]⟩ : ByteArray), .bool false, .slice none 0 0] 43 (0, 0))) := ⟨by (with_reducible repeat (first | refine blk_drewN ?_ _ | refine blk_drew ?_ | refine blk_alloc ?_ _)); refine blk_far ?_ NB233_236.out _; (with_reducible repeat (first | refine blk_drewN ?_ _ | refine blk_drew ?_ | refine blk_alloc ?_ _)); refine blk_far ?_ NB233_236.out _; (with_reducible repeat (first | refine blk_drewN ?_ _ | refine blk_drew ?_ | refine blk_alloc ?_ _)); refine blk_far ?_ NB233_236.out _; (with_reducible repeat (first | refine blk_drewN ?_ _ | refine blk_drew ?_ | refine blk_alloc ?_ _)); exact BK233.out⟩
              have n3_ : Aside0 ((((w16.setCell ⟨gb236, 0, none⟩ (.string ((rd_T43 l0_2 x14_1).f0))).setCell ⟨gb236, 1, none⟩ (.bool ((rd_T43 l0_2 x14_1).f1))).setCell ⟨gb236, 2, none⟩ (.slice A235_2 ((rd_T43 l0_2 x14_1).f2).length c235_2)).heap[gb234]? = some (.cells #[.string a0_0, .bool a0_1, u235002] 43 (0, 0))) := ⟨by (with_reducible repeat (first | refine blk_drewN ?_ _ | refine blk_drew ?_ | refine blk_alloc ?_ _)); refine blk_far ?_ NB234_236.out _; (with_reducible repeat (first | refine blk_drewN ?_ _ | refine blk_drew ?_ | refine blk_alloc ?_ _)); refine blk_far ?_ NB234_236.out _; (with_reducible repeat (first | refine blk_drewN ?_ _ | refine blk_drew ?_ | refine blk_alloc ?_ _)); refine blk_far ?_ NB234_236.out _; (with_reducible repeat (first | refine blk_drewN ?_ _ | refine blk_drew ?_ | refine blk_alloc ?_ _)); exact BK234.out⟩
              have n4_ : Aside0 ((((w16.setCell ⟨gb236, 0, none⟩ (.string ((rd_T43 l0_2 x14_1).f0))).setCell ⟨gb236, 1, none⟩ (.bool ((rd_T43 l0_2 x14_1).f1))).setCell ⟨gb236, 2, none⟩ (.slice A235_2 ((rd_T43 l0_2 x14_1).f2).length c235_2)).heap[gb236]? = some (.cells #[.string ((rd_T43 l0_2 x14_1).f0), .bool ((rd_T43 l0_2 x14_1).f1), .slice A235_2 ((rd_T43 l0_2 x14_1).f2).length c235_2] 43 (0, 0))) := ⟨by (with_reducible repeat (first | refine blk_drewN ?_ _ | refine blk_drew ?_ | refine blk_alloc ?_ _)); refine blk_put (cs := #[.string ((rd_T43 l0_2 x14_1).f0), .bool ((rd_T43 l0_2 x14_1).f1), .slice none 0 0]) ?_ 2 _ rfl; (with_reducible repeat (first | refine blk_drewN ?_ _ | refine blk_drew ?_ | refine blk_alloc ?_ _)); refine blk_put (cs := #[.string ((rd_T43 l0_2 x14_1).f0), .bool false, .slice none 0 0]) ?_ 1 _ rfl; (with_reducible repeat (first | refine blk_drewN ?_ _ | refine blk_drew ?_ | refine blk_alloc ?_ _)); refine blk_put (cs := #[.string (⟨#[]⟩ : ByteArray), .bool false, .slice none 0 0]) ?_ 0 _ rfl; (with_reducible repeat (first | refine blk_drewN ?_ _ | refine blk_drew ?_ | refine blk_alloc ?_ _)); exact BK236.out⟩
              have n5_ : Aside0 (Below w.heap.size w (((w16.setCell ⟨gb236, 0, none⟩ (.string ((rd_T43 l0_2 x14_1).f0))).setCell ⟨gb236, 1, none⟩ (.bool ((rd_T43 l0_2 x14_1).f1))).setCell ⟨gb236, 2, none⟩ (.slice A235_2 ((rd_T43 l0_2 x14_1).f2).length c235_2))) := ⟨by repeat (first | (with_reducible first | exact HB.out | apply below_alloc | apply pw_below_drewN | apply below_drew1 | refine below_set ?_ GE232.out | refine below_set ?_ GE233.out | refine below_set ?_ GE234.out | refine below_set ?_ GE236.out) | exact HB.out)⟩
              (try clear HO_235002)
              (try clear BK232)
              (try clear BK233)
              (try clear BK234)
              (try clear BK236)
              (try clear HB)
              generalize (((w16.setCell ⟨gb236, 0, none⟩ (.string ((rd_T43 l0_2 x14_1).f0))).setCell ⟨gb236, 1, none⟩ (.bool ((rd_T43 l0_2 x14_1).f1))).setCell ⟨gb236, 2, none⟩ (.slice A235_2 ((rd_T43 l0_2 x14_1).f2).length c235_2)) = w21 at n0_ n1_ n2_ n3_ n4_ n5_ ⊢
              have HO_235002 := n0_
              have BK232 := n1_
              have BK233 := n2_
              have BK234 := n3_
              have BK236 := n4_
              have HB := n5_
              clear n0_ n1_ n2_ n3_ n4_ n5_
              have n0_ := Aside0.mk (Kd.R_drew HO_235002.out)
              have n1_ := Aside0.mk (blk_drew BK232.out)
              have n2_ := Aside0.mk (blk_drew BK233.out)
              have n3_ := Aside0.mk (blk_drew BK234.out)
              have n4_ := Aside0.mk (blk_drew BK236.out)
              have n5_ := Aside0.mk (below_drew1 HB.out)
              clear HO_235002
              clear BK232
              clear BK233
              clear BK234
              clear BK236
              clear HB
              have HO_235002 := n0_
              have BK232 := n1_
              have BK233 := n2_
              have BK234 := n3_
              have BK236 := n4_
              have HB := n5_
              clear n0_ n1_ n2_ n3_ n4_ n5_
              refine start_ (n := 8) (S := fun w' => w'.cell? ⟨gb234, 0, none⟩ = some (.string a0_0) ∧ w'.cell? ⟨gb234, 1, none⟩ = some (.bool a0_1) ∧ w'.cell? ⟨gb234, 2, none⟩ = some (u235002) ∧ w'.cell? ⟨gb236, 0, none⟩ = some (.string ((rd_T43 l0_2 x14_1).f0)) ∧ w'.cell? ⟨gb236, 1, none⟩ = some (.bool ((rd_T43 l0_2 x14_1).f1)) ∧ w'.cell? ⟨gb236, 2, none⟩ = some (.slice A235_2 ((rd_T43 l0_2 x14_1).f2).length c235_2)) (ds := [7]) #[false, false, false, false, false, false, false, false] (by kernel_rfl) rfl rfl ⟨(blk_cell BK234.out 0).trans rfl, (blk_cell BK234.out 1).trans rfl, (blk_cell BK234.out 2).trans rfl, (blk_cell BK236.out 0).trans rfl, (blk_cell BK236.out 1).trans rfl, (blk_cell BK236.out 2).trans rfl⟩ (fun hHeld => ?_); refine with_tabW item_copied.tab5 item_copied.bits5 (fun HT_ HW_ => ?_)
              generalize w21.drew = w22 at HO_235002 BK232 BK233 BK234 BK236 HB hHeld ⊢
              refine pure_ (i := 0) (N := some 18) (v := ?_) (a' := ?_) #[true, false, false, false, false, false, false, false] rfl rfl (any_of HT_.out (by kernel_rfl)) (fun _ _ _ h => h) (Or.inl ⟨by rfl, ?_⟩) ?_ ?_
              rotate_left
              · intro w'
                go_simp
                with_reducible rfl
              rotate_left
              · simp only [Act.put, List.setIfInBounds_toArray, List.set_cons_zero, List.set_cons_succ, i64_w, i32_w]
                rfl
              refine take_ (i := 1) (N := some 19) (v := ?_) (a' := ?_) #[true, true, false, false, false, false, false, false] rfl rfl (take_ofW HT_.out HW_.out (by kernel_rfl)) (fun _ _ _ h => h) (Or.inl ⟨by rfl, ?_⟩) hHeld ?_ ?_
              rotate_left
              · rintro w' ⟨s0, s1, s2, s3, s4, s5⟩
                go_simp
                with_reducible rfl
              rotate_left
              · simp only [Act.put, List.setIfInBounds_toArray, List.set_cons_zero, List.set_cons_succ, i64_w, i32_w]
                rfl
              refine take_ (i := 2) (N := some 20) (v := ?_) (a' := ?_) #[true, true, true, false, false, false, false, false] rfl rfl (take_ofW HT_.out HW_.out (by kernel_rfl)) (fun _ _ _ h => h) (Or.inl ⟨by rfl, ?_⟩) hHeld ?_ ?_
              rotate_left
              · rintro w' ⟨s0, s1, s2, s3, s4, s5⟩
                go_simp
                with_reducible rfl
              rotate_left
              · simp only [Act.put, List.setIfInBounds_toArray, List.set_cons_zero, List.set_cons_succ, i64_w, i32_w]
                rfl
              refine one_ (i := 3) (N := some 21) #[true, true, true, true, false, false, false, false] rfl rfl (one_of HT_.out (by kernel_rfl)) (by decide) (fun K hK => ?_)
              refine goes_ Try.func43 (by kernel_rfl) rfl #[.agg #[.string ((rd_T43 l0_2 x14_1).f0), .bool ((rd_T43 l0_2 x14_1).f1), .slice A235_2 ((rd_T43 l0_2 x14_1).f2).length c235_2]] (by rfl) rfl rfl (by (try simp only [List.map_toArray, List.map_cons, List.map_nil]); first | done | rfl | (simp only [List.length_drop, List.length_take]; rfl)) ?_
              with_reducible refine (ih k1 (by have := HK1.out; omega) ((rd_T43 l0_2 x14_1).f0) ((rd_T43 l0_2 x14_1).f1) _ _ ((rd_T43 l0_2 x14_1).f2) t237 t238 t239 _ ?side1 ?side2 A14.out).mono ?_
              (case side1 => repeat (first | exact (Kd.C_below HR235_2.out HB.out) | (with_reducible refine Kd.C_alloc ?_ _) | (with_reducible refine Kd.C_drewN ?_ _) | (with_reducible refine Kd.C_drew ?_)))
              (case side2 => exact HC235_2.out)
              rintro e w23 ⟨v240, rfl, ho0, hb⟩
              refine ⟨_, rfl, ?_⟩
              have n0_ := Aside0.mk (Kd.R_elder' (by (with_reducible repeat (first | apply Kd.R_alloc | apply Kd.R_drewN | apply Kd.R_drew)); exact HO_235002.out) (Kd.R_base ho0) hb)
              have n1_ := Aside0.mk (Kd.R_lower (Kd.R_newB (Kd.R_newB (Kd.R_newB (Kd.R_newB (Kd.R_new' ho0 (Kd.R_lt (by (with_reducible repeat (first | apply Kd.R_alloc | apply Kd.R_drewN | apply Kd.R_drew)); exact HO_235002.out))) (g := gb232) (o := .cells #[.string a0_0, .bool a0_1, .slice (some ad235) l0_2.length c0_2] 43 (0, 0)) (by (with_reducible repeat (first | refine blk_drewN ?_ _ | refine blk_drew ?_ | refine blk_alloc ?_ _)); exact BK232.out)) (g := gb233) (o := .cells #[.string (⟨#[]⟩ : ByteArray), .bool false, .slice none 0 0] 43 (0, 0)) (by (with_reducible repeat (first | refine blk_drewN ?_ _ | refine blk_drew ?_ | refine blk_alloc ?_ _)); exact BK233.out)) (g := gb234) (o := .cells #[.string a0_0, .bool a0_1, u235002] 43 (0, 0)) (by (with_reducible repeat (first | refine blk_drewN ?_ _ | refine blk_drew ?_ | refine blk_alloc ?_ _)); exact BK234.out)) (g := gb236) (o := .cells #[.string ((rd_T43 l0_2 x14_1).f0), .bool ((rd_T43 l0_2 x14_1).f1), .slice A235_2 ((rd_T43 l0_2 x14_1).f2).length c235_2] 43 (0, 0)) (by (with_reducible repeat (first | refine blk_drewN ?_ _ | refine blk_drew ?_ | refine blk_alloc ?_ _)); exact BK236.out)) (below_size (by repeat (first | (with_reducible first | exact HB.out | apply below_alloc | apply pw_below_drewN | apply below_drew1 | refine below_set ?_ GE232.out | refine below_set ?_ GE233.out | refine below_set ?_ GE234.out | refine below_set ?_ GE236.out) | exact HB.out))))
              have n2_ := Aside0.mk (blk_below (g := gb232) (o := .cells #[.string a0_0, .bool a0_1, .slice (some ad235) l0_2.length c0_2] 43 (0, 0)) (by (with_reducible repeat (first | refine blk_drewN ?_ _ | refine blk_drew ?_ | refine blk_alloc ?_ _)); exact BK232.out) hb)
              have n3_ := Aside0.mk (blk_below (g := gb233) (o := .cells #[.string (⟨#[]⟩ : ByteArray), .bool false, .slice none 0 0] 43 (0, 0)) (by (with_reducible repeat (first | refine blk_drewN ?_ _ | refine blk_drew ?_ | refine blk_alloc ?_ _)); exact BK233.out) hb)
              have n4_ := Aside0.mk (blk_below (g := gb234) (o := .cells #[.string a0_0, .bool a0_1, u235002] 43 (0, 0)) (by (with_reducible repeat (first | refine blk_drewN ?_ _ | refine blk_drew ?_ | refine blk_alloc ?_ _)); exact BK234.out) hb)
              have n5_ := Aside0.mk (blk_below (g := gb236) (o := .cells #[.string ((rd_T43 l0_2 x14_1).f0), .bool ((rd_T43 l0_2 x14_1).f1), .slice A235_2 ((rd_T43 l0_2 x14_1).f2).length c235_2] 43 (0, 0)) (by (with_reducible repeat (first | refine blk_drewN ?_ _ | refine blk_drew ?_ | refine blk_alloc ?_ _)); exact BK236.out) hb)
              have n6_ := Aside0.mk (below_step (by repeat (first | (with_reducible first | exact HB.out | apply below_alloc | apply pw_below_drewN | apply below_drew1 | refine below_set ?_ GE232.out | refine below_set ?_ GE233.out | refine below_set ?_ GE234.out | refine below_set ?_ GE236.out) | exact HB.out)) hb)
              clear HO_235002
              clear BK232
              clear BK233
              clear BK234
              clear BK236
              clear HB
              have HO_235002 := n0_
              have HO241 := n1_
              have BK232 := n2_
              have BK233 := n3_
              have BK234 := n4_
              have BK236 := n5_
              have HB := n6_
              clear n0_ n1_ n2_ n3_ n4_ n5_ n6_
              (try clear hb)
              (try clear hb2)
              (try clear hk)
              (try clear hi)
              (try clear ho0)
              obtain ⟨Ao25, co25, eo25⟩ := Kd.R_slice HO241.out
              (first | subst eo25 | (injection eo25 with f1_ f2_ f3_; have f4_ := f1_.symm; have f5_ := f3_.symm; clear f1_ f2_ f3_; subst f4_; subst f5_))
              refine hK.out _ _ ⟨(blk_cell BK234.out 0).trans rfl, (blk_cell BK234.out 1).trans rfl, (blk_cell BK234.out 2).trans rfl, (blk_cell BK236.out 0).trans rfl, (blk_cell BK236.out 1).trans rfl, (blk_cell BK236.out 2).trans rfl⟩ (fun hHeld => ?_)
              clear hK K
              refine norm_ (a' := ?_) ?_ ?_
              rotate_left
              · show Act.put _ (some 21) _ = _
                simp only [Act.put, List.setIfInBounds_toArray, List.set_cons_zero, List.set_cons_succ, i64_w, i32_w]
                rfl
              refine one_ (i := 4) (N := some 22) #[true, true, true, true, true, false, false, false] rfl rfl (one_of HT_.out (by kernel_rfl)) (by decide) (fun K hK => ?_)
              refine value_ (w1 := ?_) (v := ?_) (by rfl) rfl ?_ ?_
              rotate_left 2
              · go_simp
                constructor
                · rfl
                · rfl
              refine hK.out _ _ ⟨(blk_cell (blk_alloc BK234.out _) 0).trans rfl, (blk_cell (blk_alloc BK234.out _) 1).trans rfl, (blk_cell (blk_alloc BK234.out _) 2).trans rfl, (blk_cell (blk_alloc BK236.out _) 0).trans rfl, (blk_cell (blk_alloc BK236.out _) 1).trans rfl, (blk_cell (blk_alloc BK236.out _) 2).trans rfl⟩ (fun hHeld => ?_)
              clear hK K
              refine norm_ (a' := ?_) ?_ ?_
              rotate_left
              · show Act.put _ (some 22) _ = _
                simp only [Act.put, List.setIfInBounds_toArray, List.set_cons_zero, List.set_cons_succ, i64_w, i32_w]
                rfl
              refine one_ (i := 5) (N := some 23) #[true, true, true, true, true, true, false, false] rfl rfl (one_of HT_.out (by kernel_rfl)) (by decide) (fun K hK => ?_)
              refine Kd.R_append_step k43 (w0 := w) w.heap.size (by rfl) (.tmp 19) (.tmp 22) 41 43 (.agg #[(.string ⟨#[]⟩), (.bool false), (.slice none 0 0)]) 48 rfl Try.underlying41 info43 rfl (by decide) (by omega) u235002 x235002_1 (⟨t237, t238, t239⟩ : S43) [.string t237, .bool t238, .slice Ao25 t239.length co25] (fun k_ => k_ ≠ gb232 ∧ k_ ≠ gb233 ∧ k_ ≠ gb234 ∧ k_ ≠ gb236) (fun k_ => ((fun k_ => k_ ≠ gb232 ∧ k_ ≠ gb233 ∧ k_ ≠ gb234 ∧ k_ ≠ gb236)) k_ ∧ some k_ ≠ (u235002 : Value).ownBlock) rfl rfl ?aP (fun _ hk => hk) ?aF ?aO ?aB ?aS ?aL ?_
              (case aP => exact k43_mkM _ _ _ (⟨t237, t238, t239⟩ : S43) (Kd.R_mono (HO241.out) (fun k_ hk => ⟨⟨hk.1.1.1.2, ⟨hk.1.1.2, ⟨hk.1.2, hk.2⟩⟩⟩, hk.1.1.1.1.2⟩)))
              (case aB => exact (by repeat (first | (with_reducible first | exact HB.out | apply below_alloc | apply pw_below_drewN | apply below_drew1 | refine below_set ?_ GE232.out | refine below_set ?_ GE233.out | refine below_set ?_ GE234.out | refine below_set ?_ GE236.out) | exact HB.out)))
              (case aF => exact (fun k_ hk => ⟨Kd.freshB (g := gb232) (o := .cells #[.string a0_0, .bool a0_1, .slice (some ad235) l0_2.length c0_2] 43 (0, 0)) (by (with_reducible repeat (first | refine blk_drewN ?_ _ | refine blk_drew ?_ | refine blk_alloc ?_ _)); exact BK232.out) k_ hk, Kd.freshB (g := gb233) (o := .cells #[.string (⟨#[]⟩ : ByteArray), .bool false, .slice none 0 0] 43 (0, 0)) (by (with_reducible repeat (first | refine blk_drewN ?_ _ | refine blk_drew ?_ | refine blk_alloc ?_ _)); exact BK233.out) k_ hk, Kd.freshB (g := gb234) (o := .cells #[.string a0_0, .bool a0_1, u235002] 43 (0, 0)) (by (with_reducible repeat (first | refine blk_drewN ?_ _ | refine blk_drew ?_ | refine blk_alloc ?_ _)); exact BK234.out) k_ hk, Kd.freshB (g := gb236) (o := .cells #[.string ((rd_T43 l0_2 x14_1).f0), .bool ((rd_T43 l0_2 x14_1).f1), .slice A235_2 ((rd_T43 l0_2 x14_1).f2).length c235_2] 43 (0, 0)) (by (with_reducible repeat (first | refine blk_drewN ?_ _ | refine blk_drew ?_ | refine blk_alloc ?_ _)); exact BK236.out) k_ hk⟩))
              (case aO => exact (by (with_reducible repeat (first | apply Kd.R_alloc | apply Kd.R_drewN | apply Kd.R_drew)); exact Kd.R_mono HO_235002.out (fun _ hk => ⟨hk.1.1, ⟨hk.1.2.1, ⟨hk.1.2.2.1, hk.1.2.2.2⟩⟩⟩)))
              (case aS => exact (below_size (by repeat (first | (with_reducible first | exact HB.out | apply below_alloc | apply pw_below_drewN | apply below_drew1 | refine below_set ?_ GE232.out | refine below_set ?_ GE233.out | refine below_set ?_ GE234.out | refine below_set ?_ GE236.out) | exact HB.out))))
              (case aL => have := LMc15.out; omega)
              intro v243 w24 ho hb hg hat
              rw [← Ny242.out] at ho
              have n0_ := Aside0.mk (blk_grown (g := gb232) (o := .cells #[.string a0_0, .bool a0_1, .slice (some ad235) l0_2.length c0_2] 43 (0, 0)) (by (with_reducible repeat (first | refine blk_drewN ?_ _ | refine blk_drew ?_ | refine blk_alloc ?_ _)); exact BK232.out) hg (Kd.R_away HO_235002.out (fun _ hk => hk.1.1)))
              have n1_ := Aside0.mk (blk_grown (g := gb233) (o := .cells #[.string (⟨#[]⟩ : ByteArray), .bool false, .slice none 0 0] 43 (0, 0)) (by (with_reducible repeat (first | refine blk_drewN ?_ _ | refine blk_drew ?_ | refine blk_alloc ?_ _)); exact BK233.out) hg (Kd.R_away HO_235002.out (fun _ hk => hk.1.2.1)))
              have n2_ := Aside0.mk (blk_grown (g := gb234) (o := .cells #[.string a0_0, .bool a0_1, u235002] 43 (0, 0)) (by (with_reducible repeat (first | refine blk_drewN ?_ _ | refine blk_drew ?_ | refine blk_alloc ?_ _)); exact BK234.out) hg (Kd.R_away HO_235002.out (fun _ hk => hk.1.2.2.1)))
              have n3_ := Aside0.mk (blk_grown (g := gb236) (o := .cells #[.string ((rd_T43 l0_2 x14_1).f0), .bool ((rd_T43 l0_2 x14_1).f1), .slice A235_2 ((rd_T43 l0_2 x14_1).f2).length c235_2] 43 (0, 0)) (by (with_reducible repeat (first | refine blk_drewN ?_ _ | refine blk_drew ?_ | refine blk_alloc ?_ _)); exact BK236.out) hg (Kd.R_away HO_235002.out (fun _ hk => hk.1.2.2.2)))
              have n4_ := Aside0.mk (hb)
              have n5_ := Aside0.mk (ho)
              clear BK232
              clear BK233
              clear BK234
              clear BK236
              clear HB
              clear HO_235002
              clear HO241
              have BK232 := n0_
              have BK233 := n1_
              have BK234 := n2_
              have BK236 := n3_
              have HB := n4_
              have HO244 := n5_
              clear n0_ n1_ n2_ n3_ n4_ n5_
              clear ho hb hg hat
              obtain ⟨Ao26, co26, eo26⟩ := Kd.R_slice HO244.out
              (first | subst eo26 | (injection eo26 with f1_ f2_ f3_; have f4_ := f1_.symm; have f5_ := f3_.symm; clear f1_ f2_ f3_; subst f4_; subst f5_))
              refine hK.out _ _ ⟨(blk_cell BK234.out 0).trans rfl, (blk_cell BK234.out 1).trans rfl, (blk_cell BK234.out 2).trans rfl, (blk_cell BK236.out 0).trans rfl, (blk_cell BK236.out 1).trans rfl, (blk_cell BK236.out 2).trans rfl⟩ (fun hHeld => ?_)
              clear hK K
              refine norm_ (a' := ?_) ?_ ?_
              rotate_left
              · show Act.put _ (some 23) _ = _
                simp only [Act.put, List.setIfInBounds_toArray, List.set_cons_zero, List.set_cons_succ, i64_w, i32_w]
                rfl
              refine pure_ (i := 6) (N := some 24) (v := ?_) (a' := ?_) #[true, true, true, true, true, true, true, false] rfl rfl (any_of HT_.out (by kernel_rfl)) (fun _ _ _ h => h) (Or.inl ⟨by rfl, ?_⟩) ?_ ?_
              rotate_left
              · intro w'
                go_simp
                with_reducible rfl
              rotate_left
              · simp only [Act.put, List.setIfInBounds_toArray, List.set_cons_zero, List.set_cons_succ, i64_w, i32_w]
                rfl
              refine last_ (i := 7) (N := none) #[true, true, true, true, true, true, true, true] rfl rfl (one_of HT_.out (by kernel_rfl)) (by decide) (fun K hK => ?_)
              have hs27 : w24.cell? ⟨gb234, 2, none⟩ = some (u235002) := (blk_cell BK234.out 2).trans rfl
              have hfs27 := blk_frozen BK234.out 2
              have hns27_0 := NB232_234.out
              have hns27_1 := NB233_234.out
              have hns27_3 := NB236_234.out
              have hms27_0 := NB234_232.out
              have hms27_1 := NB234_233.out
              have hms27_3 := NB234_236.out
              refine skip_ (w1 := ?_) (by rfl) rfl ?_ ?_
              rotate_left
              · go_simp
                rfl
              refine hK.out _ _ ?_
              clear hK K
              refine done_ (done_of HT_.out (by kernel_rfl)) ?_
              try go_wp2
              go_roundg k1
              case measure => have := HK1.out; omega
              case rel => exact ⟨(wrap64 (x14_1 + 1)), (y242), (.slice Ao26 y242.length co26), (by first | rfl | (simp; done) | (simp [*]; done)), H', ⟨by have := HK1.out; omega⟩, ⟨by (with_reducible repeat (first | apply Kd.R_alloc | apply Kd.R_drewN | apply Kd.R_drew)); exact Kd.R_mono (Kd.R_far (p := ⟨gb234, 2, none⟩) (Kd.R_mono HO244.out (fun k_ hk => (⟨hk, hk.2.2.1⟩ : _ ∧ k_ ≠ gb234))) (fun _ hk => hk.2) (.slice Ao26 y242.length co26)) (fun _ hk => ⟨hk.1.1, ⟨hk.1.2.1, hk.1.2.2.1⟩⟩)⟩, ⟨by (with_reducible repeat (first | refine blk_drewN ?_ _ | refine blk_drew ?_ | refine blk_alloc ?_ _)); refine blk_far ?_ NB232_234.out _; (with_reducible repeat (first | refine blk_drewN ?_ _ | refine blk_drew ?_ | refine blk_alloc ?_ _)); exact BK232.out⟩, ⟨by (with_reducible repeat (first | refine blk_drewN ?_ _ | refine blk_drew ?_ | refine blk_alloc ?_ _)); refine blk_far ?_ NB233_234.out _; (with_reducible repeat (first | refine blk_drewN ?_ _ | refine blk_drew ?_ | refine blk_alloc ?_ _)); exact BK233.out⟩, ⟨by (with_reducible repeat (first | refine blk_drewN ?_ _ | refine blk_drew ?_ | refine blk_alloc ?_ _)); refine blk_put (cs := #[.string a0_0, .bool a0_1, u235002]) ?_ 2 _ rfl; (with_reducible repeat (first | refine blk_drewN ?_ _ | refine blk_drew ?_ | refine blk_alloc ?_ _)); exact BK234.out⟩, ⟨by repeat (first | (with_reducible first | exact HB.out | apply below_alloc | apply pw_below_drewN | apply below_drew1 | refine below_set ?_ GE232.out | refine below_set ?_ GE233.out | refine below_set ?_ GE234.out | refine below_set ?_ GE236.out) | exact HB.out)⟩⟩
            · rw [if_neg c15] at H
              exact absurd H (by simp)
          · rw [if_neg c13] at H
            exact absurd H (by simp)
        · rw [if_neg c12] at H
          exact absurd H (by simp)
      · rw [if_neg c11] at H
        have c11b0 : decide (x14_1 < (l0_2.length : Int)) = false := decide_eq_false c11
        clear c11
        simp only [Option.some.injEq, Prod.mk.injEq] at H
        obtain ⟨rfl, rfl, rfl⟩ := H
        have hnb28 := NB234_232.out
        have hnc28 := NB232_234.out
        have hnb29 := NB234_233.out
        have hnc29 := NB233_234.out
        have hcz30_0 : wr.cell? ⟨gb234, 0, none⟩ = some (.string a0_0) := (blk_cell BK234.out 0).trans rfl
        have hcz30_1 : wr.cell? ⟨gb234, 1, none⟩ = some (.bool a0_1) := (blk_cell BK234.out 1).trans rfl
        have hcz30_2 : wr.cell? ⟨gb234, 2, none⟩ = some (u235002) := (blk_cell BK234.out 2).trans rfl
        have hfz30_0 := blk_frozen BK234.out 0
        have hfz30_1 := blk_frozen BK234.out 1
        have hfz30_2 := blk_frozen BK234.out 2
        have hnb31 := NB233_232.out
        have hnc31 := NB232_233.out
        have hcz32_0 : wr.cell? ⟨gb233, 0, none⟩ = some (.string (⟨#[]⟩ : ByteArray)) := (blk_cell BK233.out 0).trans rfl
        have hcz32_1 : wr.cell? ⟨gb233, 1, none⟩ = some (.bool false) := (blk_cell BK233.out 1).trans rfl
        have hcz32_2 : wr.cell? ⟨gb233, 2, none⟩ = some (.slice none 0 0) := (blk_cell BK233.out 2).trans rfl
        have hfz32_0 := blk_frozen BK233.out 0
        have hfz32_1 := blk_frozen BK233.out 1
        have hfz32_2 := blk_frozen BK233.out 2
        obtain ⟨Ao33, co33, eo33⟩ := Kd.R_slice HO_235002.out
        subst eo33
        go_wp2
        refine bodyPost_ret (results_cell_row rfl _ _ gb233 43 #[.string a0_0, .bool a0_1, .slice Ao33 x235002_1.length co33] (0, 0) _ rfl (by (with_reducible repeat (first | refine blk_drewN ?_ _ | refine blk_drew ?_ | refine blk_alloc ?_ _)); refine blk_put (cs := #[.string a0_0, .bool a0_1, .slice none 0 0]) ?_ 2 _ rfl; (with_reducible repeat (first | refine blk_drewN ?_ _ | refine blk_drew ?_ | refine blk_alloc ?_ _)); refine blk_put (cs := #[.string a0_0, .bool false, .slice none 0 0]) ?_ 1 _ rfl; (with_reducible repeat (first | refine blk_drewN ?_ _ | refine blk_drew ?_ | refine blk_alloc ?_ _)); refine blk_put (cs := #[.string (⟨#[]⟩ : ByteArray), .bool false, .slice none 0 0]) ?_ 0 _ rfl; (with_reducible repeat (first | refine blk_drewN ?_ _ | refine blk_drew ?_ | refine blk_alloc ?_ _)); exact BK233.out) Try.underlying43 rfl (by kernel_rfl)) rfl ?_
        exact ⟨_, by first | rfl | (simp [errW_none, errW_some] <;> rfl) | (simp [*, errW_none, errW_some] <;> rfl), by (with_reducible repeat (first | apply Kd.R_alloc | apply Kd.R_drewN | apply Kd.R_drew)); exact Kd.R_mono (Kd.R_far (p := ⟨gb233, 2, none⟩) (Kd.R_far (p := ⟨gb233, 1, none⟩) (Kd.R_far (p := ⟨gb233, 0, none⟩) (Kd.R_mono HO_235002.out (fun k_ hk => (⟨hk, hk.2.1⟩ : _ ∧ k_ ≠ gb233))) (fun _ hk => hk.2) (.string a0_0)) (fun _ hk => hk.2) (.bool a0_1)) (fun _ hk => hk.2) (.slice Ao33 x235002_1.length co33)) (fun _ hk => trivial), by repeat (first | (with_reducible first | exact HB.out | apply below_alloc | apply pw_below_drewN | apply below_drew1 | refine below_set ?_ GE232.out | refine below_set ?_ GE233.out | refine below_set ?_ GE234.out) | exact HB.out)⟩

-- NOT PRINTED: function 25 (item_Copy)

-- NOT PRINTED: function 5 (hatchwaylaw08_ItemApart)

end Go.Proofs.Ytkdkdjhdoplicaa.It
