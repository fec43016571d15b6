/- The walk of MeterPlays. -/
import Derived.Test.YtkdkdjhdoplicaaActs
import Derived.Deep.Slices
namespace Go.Proofs.Ytkdkdjhdoplicaa.Plays
open Go.RowKit Go.Proofs.YtkdkdjhdoplicaaW.PrintWords Go.Proofs.YtkdkdjhdoplicaaW.PrintMore Go.Proofs.Ytkdkdjhdoplicaa.Md Go.Proofs.Ytkdkdjhdoplicaa.Met Go.Proofs.Ytkdkdjhdoplicaa.PMeterPlays Go.Proofs.Ytkdkdjhdoplicaa.Acts

/-- the acts: two cells each -/
def IsActs (w : World) (A : Option Addr) (len : Nat) : Prop :=
  ∀ i, i < len → ∃ x k n, A = some x ∧ w.cell? (x.add (i * 2)) = some (.int .u8 k) ∧ w.cell? (x.add (i * 2 + 1)) = some (.int .i64 n) ∧ (0 ≤ k ∧ k ≤ 255) ∧ n ≤ 9223372036854775807

theorem IsActs.at_ {w w' : World} {A : Option Addr} {len : Nat} (h : IsActs w A len) (hb : Below w.heap.size w w') (i : Nat) (hi : i < len) :
    ∃ x k n, A = some x ∧ w'.cell? (x.add (i * 2)) = some (.int .u8 k) ∧ w'.cell? ⟨(x.add (i * 2)).block, (x.add (i * 2)).off + 1, none⟩ = some (.int .i64 n) ∧ (0 ≤ k ∧ k ≤ 255) ∧ n ≤ 9223372036854775807 := by
  obtain ⟨x, k, n, e, h1, h2, h3, h4⟩ := h i hi
  rw [← Go.Deep.add_add, show (x.add (i * 2)).add 1 = ⟨(x.add (i * 2)).block, (x.add (i * 2)).off + 1, none⟩ from rfl] at h2
  exact ⟨x, k, n, e, (hb.cell (World.block_lt_of_cell? w _ h1)).trans h1, (hb.cell (World.block_lt_of_cell? w _ h2)).trans h2, h3, h4⟩

/-- block X is the document's meter -/
def Xt (w : World) (X : Nat) (a b c d : Int) : Prop := w.heap[X]? = some (.cells #[.int .i64 a, .int .i64 b, .int .i64 c, .int .i64 d] 33 (0, 0))

theorem quiet_left {P : Program} {f : FuncId} {args : Array Value} {w : World} {n : Nat} {v : Value}
    (h : Calls P f args (w.drewN n) fun e w' => e = .returned v ∧ w.drewN n = w') : Calls P f args (w.drewN n) fun e w'' => e = .returned v ∧ ∃ m, w'' = w.drewN m :=
  h.mono fun _ _ ⟨he, hm⟩ => ⟨he, n, hm.symm⟩

theorem Xt.put {w : World} {X : Nat} {a b c d : Int} (h : Xt w X a b c d) (a' b' c' d' : Int) :
    Xt ((((w.setCell ⟨X, 0, none⟩ (.int .i64 a')).setCell ⟨X, 1, none⟩ (.int .i64 b')).setCell ⟨X, 2, none⟩ (.int .i64 c')).setCell ⟨X, 3, none⟩ (.int .i64 d')) X a' b' c' d' :=
  blk_put (blk_put (blk_put (blk_put h 0 _ rfl) 1 _ rfl) 2 _ rfl) 3 _ rfl
theorem Xt.far {w : World} {X Y : Nat} {a b c d : Int} (h : Xt w X a b c d) (hne : ¬ X = Y) (i : Nat) (v : Value) : Xt (w.setCell ⟨Y, i, none⟩ v) X a b c d := blk_far h hne v
theorem mt_far {w : World} {X Y : Nat} {a b c d : Int} (h : Mt w X a b c d) (hne : ¬ X = Y) (i : Nat) (v : Value) : Mt (w.setCell ⟨Y, i, none⟩ v) X a b c d := blk_far h hne v

set_option maxRecDepth 100000 in
set_option maxHeartbeats 4000000 in
theorem plays (w : World) (most : Int) (A : Option Addr) (len cap : Nat) (hmost : (Lit.int .i64 most).wf = true) (hz : IsActs w A len) :
    Calls Try.prog 4 #[.int .i64 most, .slice A len cap] w fun e w' => e = .returned (.bool true) ∧ Below w.heap.size w w' := by
  have HB := Aside0.mk (Below.refl w.heap.size w)
  obtain ⟨hlo, hhi⟩ : -9223372036854775808 ≤ most ∧ most ≤ 9223372036854775807 := by simpa [Lit.wf, IntKind.min, IntKind.max, IntKind.signed, IntKind.bits] using hmost
  clear hmost
  by_cases hg : 100 < len
  · have h2 : decide (100 < (len : Int)) = true := decide_eq_true (by omega)
    clear hz hg
    go_enter Try.func4, Try.ntmps4
    go_wp2_with fail
    refine (alive _).mono ?_
    rintro e w1 ⟨rfl, hb⟩
    have HB1 := Aside0.mk (below_step HB.out hb)
    clear hb HB
    go_wp2_with fail
    go_ret
    exact ⟨rfl, HB1.out⟩
  · have h2 : decide (100 < (len : Int)) = false := decide_eq_false (by omega)
    have hlen : len ≤ 100 := by omega
    have HZ := Aside0.mk hz
    clear hz hg
    obtain ⟨M, hM, hM0, hM1⟩ : ∃ M : Int, (M = if most < 0 then 0 else most) ∧ 0 ≤ M ∧ M ≤ 9223372036854775807 := ⟨_, rfl, by split <;> omega, by split <;> omega⟩
    have HMM := Aside0.mk hM
    have hrn : hatchwayref07_New.f most = some (M, 0, 0, 0) := by
      unfold hatchwayref07_New.f
      rw [hM]
      split <;> rfl
    have HRN := Aside0.mk (fun W => hatchwayref07_New.calls most M 0 0 0 W hrn)
    clear hM hrn
    go_enter Try.func4, Try.ntmps4
    go_wp2_with fail
    refine (alive _).mono ?_
    rintro e w1 ⟨rfl, hb⟩
    have HB1 := Aside0.mk (below_step HB.out hb)
    clear hb HB
    go_wp2_with fail
    refine (new_calls _ _ M HMM.out).mono ?_
    rintro e w2 ⟨rfl, hr, hb⟩
    have HB2 := Aside0.mk (below_step HB1.out hb)
    have HR2 := Aside0.mk hr
    have hge : w.heap.size ≤ w1.heap.size := HB1.out.size
    clear hb hr HB1
    obtain ⟨g, hgg⟩ : ∃ g, g = w1.heap.size := ⟨_, rfl⟩
    rw [← hgg] at HR2 hge
    have HG := Aside0.mk (show ∀ i, i = g → w.heap.size ≤ i by omega)
    rw [← hgg]
    clear hgg hge
    go_wp2_with fail
    refine (HRN.out _).mono ?_
    rintro e w3 ⟨rfl, hb⟩
    have HB3 := Aside0.mk (below_step HB2.out hb)
    have HR3 := Aside0.mk (show Mt w3 g M 0 0 0 from blk_below HR2.out hb)
    clear hb HB2 HR2
    have hge3 : w.heap.size ≤ w3.heap.size := HB3.out.size
    have hgl : g < w3.heap.size := blk_lt HR3.out
    have HX4 := Aside0.mk (show Xt (w3.alloc (.cells #[.int .i64 M, .int .i64 0, .int .i64 0, .int .i64 0] 33)) w3.heap.size M 0 0 0 from blk_new _ _)
    have HR4 := Aside0.mk (HR3.out.alloc (.cells #[.int .i64 M, .int .i64 0, .int .i64 0, .int .i64 0] 33))
    have HB4 := Aside0.mk (below_alloc HB3.out (.cells #[.int .i64 M, .int .i64 0, .int .i64 0, .int .i64 0] 33))
    obtain ⟨X, hX⟩ : ∃ X, X = w3.heap.size := ⟨_, rfl⟩
    rw [← hX] at hge3 hgl HX4
    go_wp2_with fail
    rw [← hX]
    clear hX HB3 HR3
    have hgX : ¬ g = X := by omega
    have hXg : ¬ X = g := by omega
    go_loopg [7] len (fun kq v7 wr => ∃ (k : Nat) (u t p : Int), v7 = .int .i64 k ∧ k ≤ len ∧ Aside0 (Ok M u t p) ∧ Aside0 (kq = len - k) ∧ Aside0 (Mt wr g M u t p) ∧ Aside0 (Xt wr X M u t p) ∧ Aside0 (Below w.heap.size w wr))
    case atStart => exact ⟨0, 0, 0, 0, rfl, by omega, ⟨by unfold Ok; omega⟩, ⟨by omega⟩, HR4, HX4, HB4⟩
    case round =>
      clear HB4 HR4 HX4
      obtain ⟨k, u, t, p, rfl, hk, HO, HK, HR, HX, HB⟩ := hrel
      by_cases hlt : k < len
      · obtain ⟨ad, kd, n, rfl, hx0, hx1, hkd, hn⟩ := HZ.out.at_ HB.out k hlt
        have hltX := blk_lt HX.out
        have hltg := blk_lt HR.out
        have hXa : ∀ o, Xt (wr.alloc o) X M u t p := fun o => blk_alloc HX.out o
        have hX0 : ∀ o, (wr.alloc o).cell? ⟨X, 0, none⟩ = some (.int .i64 M) := fun o => blk_at_cells (i := 0) (hXa o) rfl
        have hX1 : ∀ o, (wr.alloc o).cell? ⟨X, 1, none⟩ = some (.int .i64 u) := fun o => blk_at_cells (i := 1) (hXa o) rfl
        have hX2 : ∀ o, (wr.alloc o).cell? ⟨X, 2, none⟩ = some (.int .i64 t) := fun o => blk_at_cells (i := 2) (hXa o) rfl
        have hX3 : ∀ o, (wr.alloc o).cell? ⟨X, 3, none⟩ = some (.int .i64 p) := fun o => blk_at_cells (i := 3) (hXa o) rfl
        have hW1 : Xt ((wr.alloc (.cells #[.int .u8 kd, .int .i64 n] 36)).alloc (.cells #[.int .i64 M, .int .i64 u, .int .i64 t, .int .i64 p] 33)) X M u t p := blk_alloc (hXa _) _
        have hW2 : Mt ((wr.alloc (.cells #[.int .u8 kd, .int .i64 n] 36)).alloc (.cells #[.int .i64 M, .int .i64 u, .int .i64 t, .int .i64 p] 33)) g M u t p := blk_alloc (blk_alloc HR.out _) _
        have hW3 : ((wr.alloc (.cells #[.int .u8 kd, .int .i64 n] 36)).alloc (.cells #[.int .i64 M, .int .i64 u, .int .i64 t, .int .i64 p] 33)).heap[wr.heap.size]? = some (.cells #[.int .u8 kd, .int .i64 n] 36 (0, 0)) := blk_alloc (blk_new _ _) _
        have hW4 : Xt ((wr.alloc (.cells #[.int .u8 kd, .int .i64 n] 36)).alloc (.cells #[.int .i64 M, .int .i64 u, .int .i64 t, .int .i64 p] 33)) (wr.heap.size + 1) M u t p := by
          have := blk_new (wr.alloc (.cells #[.int .u8 kd, .int .i64 n] 36)) (.cells #[.int .i64 M, .int .i64 u, .int .i64 t, .int .i64 p] 33)
          rw [World.size_alloc] at this
          exact this
        have hW5 : Below w.heap.size w ((wr.alloc (.cells #[.int .u8 kd, .int .i64 n] 36)).alloc (.cells #[.int .i64 M, .int .i64 u, .int .i64 t, .int .i64 p] 33)) := below_alloc (below_alloc HB.out _) _
        have hge : w.heap.size ≤ wr.heap.size := HB.out.size
        have HW1 := Aside0.mk hW1
        have HW2 := Aside0.mk hW2
        have HW3 := Aside0.mk hW3
        have HW4 := Aside0.mk hW4
        have HW5 := Aside0.mk hW5
        clear hXa hW1 hW2 hW3 hW4 hW5
        go_upto_block 2 with (fail)
        clear hX0 hX1 hX2 hX3 hx0 hx1
        go_cut [9, 10] (fun v9 v10 wc => ∃ (x u2 t2 p2 : Int), v9 = .int .i64 x ∧ v10 = .int .i64 x ∧ Aside0 (Ok M u2 t2 p2) ∧ Aside0 (Mt wc g M u2 t2 p2) ∧ Aside0 (Xt wc (wr.heap.size + 1) M u2 t2 p2) ∧ Aside0 (wc.heap[X]? = some (.cells #[.int .i64 M, .int .i64 u, .int .i64 t, .int .i64 p] 33 (0, 0))) ∧ Aside0 (Below w.heap.size w wc))
        case first =>
          by_cases k2 : kd % 4 = 2
          · have k2b : (kd % 4 == 2) = true := beq_iff_eq.mpr k2
            clear k2
            obtain ⟨x, u2, t2, p2, hr⟩ : ∃ x u2 t2 p2, gvM u t p n = (x, u2, t2, p2) := ⟨_, _, _, _, rfl⟩
            have hok2 := gv_ok n HO.out
            have htk := Acts.give_calls _ g M u t p n HW2.out HO.out
            have hrt := ref_give M u t p n HO.out
            rw [hr] at hok2 htk hrt
            have HOK2 := Aside0.mk hok2
            have HTK := Aside0.mk htk
            have HRT := Aside0.mk (fun W => hatchwayref07_Give.calls M u t p n _ _ _ _ _ W hrt)
            clear hr hok2 htk hrt
            go_wp2_with fail
            refine HTK.out.mono ?_
            rintro e w4 ⟨rfl, hm, hmod⟩
            have HM4 := Aside0.mk hm
            have HX4 := Aside0.mk (hmod.blk HW1.out hXg)
            have HY4 := Aside0.mk (hmod.blk HW4.out (by omega))
            have HA4 := Aside0.mk (hmod.blk HW3.out (by omega))
            have HB4 := Aside0.mk (hmod.below HW5.out HW5.out.size HG.out)
            clear hm hmod
            have hx0 : w4.cell? ⟨X, 0, none⟩ = some (.int .i64 M) := blk_at_cells (i := 0) HX4.out rfl
            have hx1 : w4.cell? ⟨X, 1, none⟩ = some (.int .i64 u) := blk_at_cells (i := 1) HX4.out rfl
            have hx2 : w4.cell? ⟨X, 2, none⟩ = some (.int .i64 t) := blk_at_cells (i := 2) HX4.out rfl
            have hx3 : w4.cell? ⟨X, 3, none⟩ = some (.int .i64 p) := blk_at_cells (i := 3) HX4.out rfl
            have ha1 : w4.cell? ⟨wr.heap.size, 1, none⟩ = some (.int .i64 n) := blk_at_cells (i := 1) HA4.out rfl
            go_wp2_with fail
            refine (HRT.out _).mono ?_
            rintro e w5 ⟨rfl, hb⟩
            have HM5 := Aside0.mk (blk_below HM4.out hb)
            have HX5 := Aside0.mk (blk_below HX4.out hb)
            have HY5 := Aside0.mk (blk_below HY4.out hb)
            have HB5 := Aside0.mk (below_step HB4.out hb)
            clear hb hx0 hx1 hx2 hx3 ha1
            have hy0 : w5.cell? ⟨wr.heap.size + 1, 0, none⟩ = some (.int .i64 M) := blk_at_cells (i := 0) HY5.out rfl
            have hy1 : w5.cell? ⟨wr.heap.size + 1, 1, none⟩ = some (.int .i64 u) := blk_at_cells (i := 1) HY5.out rfl
            have hy2 : w5.cell? ⟨wr.heap.size + 1, 2, none⟩ = some (.int .i64 t) := blk_at_cells (i := 2) HY5.out rfl
            have hy3 : w5.cell? ⟨wr.heap.size + 1, 3, none⟩ = some (.int .i64 p) := blk_at_cells (i := 3) HY5.out rfl
            have hyf : ∀ i, w5.frozen? ⟨wr.heap.size + 1, i, none⟩ = false := fun i => blk_frozen HY5.out i
            go_wp2_with fail
            go_meet
            case rel =>
              have n1 : ¬ g = wr.heap.size + 1 := by omega
              have n2 : ¬ X = wr.heap.size + 1 := by omega
              have hb4 : w.heap.size ≤ wr.heap.size + 1 := by omega
              exact ⟨x, u2, t2, p2, rfl, rfl, HOK2, ⟨mt_far (mt_far (mt_far (mt_far HM5.out n1 _ _) n1 _ _) n1 _ _) n1 _ _⟩, ⟨Xt.put HY5.out _ _ _ _⟩,
                ⟨Xt.far (Xt.far (Xt.far (Xt.far HX5.out n2 _ _) n2 _ _) n2 _ _) n2 _ _⟩, ⟨(((HB5.out.setCell hb4 _).setCell hb4 _).setCell hb4 _).setCell hb4 _⟩⟩
          · have k2b : (kd % 4 == 2) = false := beq_eq_false_iff_ne.mpr k2
            by_cases k3 : kd % 4 = 3
            · have k3b : (kd % 4 == 3) = true := beq_iff_eq.mpr k3
              clear k2 k3
              have HOK2 := Aside0.mk (show Ok M u 0 u by have := HO.out; unfold Ok at *; omega)
              have HTK := Aside0.mk (clear_calls _ g M u t p HW2.out)
              have HRT := Aside0.mk (fun W => hatchwayref07_Clear.calls M u t p M u 0 u W rfl)
              go_wp2_with fail
              refine HTK.out.mono ?_
              rintro e w4 ⟨rfl, hm, hmod⟩
              have HM4 := Aside0.mk hm
              have HX4 := Aside0.mk (hmod.blk HW1.out hXg)
              have HY4 := Aside0.mk (hmod.blk HW4.out (by omega))
              have HB4 := Aside0.mk (hmod.below HW5.out HW5.out.size HG.out)
              clear hm hmod
              have hx0 : w4.cell? ⟨X, 0, none⟩ = some (.int .i64 M) := blk_at_cells (i := 0) HX4.out rfl
              have hx1 : w4.cell? ⟨X, 1, none⟩ = some (.int .i64 u) := blk_at_cells (i := 1) HX4.out rfl
              have hx2 : w4.cell? ⟨X, 2, none⟩ = some (.int .i64 t) := blk_at_cells (i := 2) HX4.out rfl
              have hx3 : w4.cell? ⟨X, 3, none⟩ = some (.int .i64 p) := blk_at_cells (i := 3) HX4.out rfl
              go_wp2_with fail
              refine (HRT.out _).mono ?_
              rintro e w5 ⟨rfl, hb⟩
              have HM5 := Aside0.mk (blk_below HM4.out hb)
              have HX5 := Aside0.mk (blk_below HX4.out hb)
              have HY5 := Aside0.mk (blk_below HY4.out hb)
              have HB5 := Aside0.mk (below_step HB4.out hb)
              clear hb hx0 hx1 hx2 hx3
              have hy0 : w5.cell? ⟨wr.heap.size + 1, 0, none⟩ = some (.int .i64 M) := blk_at_cells (i := 0) HY5.out rfl
              have hy1 : w5.cell? ⟨wr.heap.size + 1, 1, none⟩ = some (.int .i64 u) := blk_at_cells (i := 1) HY5.out rfl
              have hy2 : w5.cell? ⟨wr.heap.size + 1, 2, none⟩ = some (.int .i64 t) := blk_at_cells (i := 2) HY5.out rfl
              have hy3 : w5.cell? ⟨wr.heap.size + 1, 3, none⟩ = some (.int .i64 p) := blk_at_cells (i := 3) HY5.out rfl
              have hyf : ∀ i, w5.frozen? ⟨wr.heap.size + 1, i, none⟩ = false := fun i => blk_frozen HY5.out i
              go_wp2_with fail
              go_meet
              case rel =>
                have n1 : ¬ g = wr.heap.size + 1 := by omega
                have n2 : ¬ X = wr.heap.size + 1 := by omega
                have hb4 : w.heap.size ≤ wr.heap.size + 1 := by omega
                exact ⟨0, u, 0, u, rfl, rfl, HOK2, ⟨mt_far (mt_far (mt_far (mt_far HM5.out n1 _ _) n1 _ _) n1 _ _) n1 _ _⟩, ⟨Xt.put HY5.out _ _ _ _⟩,
                  ⟨Xt.far (Xt.far (Xt.far (Xt.far HX5.out n2 _ _) n2 _ _) n2 _ _) n2 _ _⟩, ⟨(((HB5.out.setCell hb4 _).setCell hb4 _).setCell hb4 _).setCell hb4 _⟩⟩
            · have k3b : (kd % 4 == 3) = false := beq_eq_false_iff_ne.mpr k3
              clear k2 k3
              obtain ⟨x, u2, t2, p2, hr⟩ : ∃ x u2 t2 p2, tkM M u t p n = (x, u2, t2, p2) := ⟨_, _, _, _, rfl⟩
              have hok2 := tk_ok n HO.out
              have htk := Acts.take_calls _ g M u t p n HW2.out HO.out
              have hrt := ref_take M u t p n hn HO.out
              rw [hr] at hok2 htk hrt
              have HOK2 := Aside0.mk hok2
              have HTK := Aside0.mk htk
              have HRT := Aside0.mk (fun W => hatchwayref07_Take.calls 1 M u t p n _ _ _ _ _ W hrt)
              clear hr hok2 htk hrt
              go_wp2_with fail
              refine HTK.out.mono ?_
              rintro e w4 ⟨rfl, hm, hmod⟩
              have HM4 := Aside0.mk hm
              have HX4 := Aside0.mk (hmod.blk HW1.out hXg)
              have HY4 := Aside0.mk (hmod.blk HW4.out (by omega))
              have HA4 := Aside0.mk (hmod.blk HW3.out (by omega))
              have HB4 := Aside0.mk (hmod.below HW5.out HW5.out.size HG.out)
              clear hm hmod
              have hx0 : w4.cell? ⟨X, 0, none⟩ = some (.int .i64 M) := blk_at_cells (i := 0) HX4.out rfl
              have hx1 : w4.cell? ⟨X, 1, none⟩ = some (.int .i64 u) := blk_at_cells (i := 1) HX4.out rfl
              have hx2 : w4.cell? ⟨X, 2, none⟩ = some (.int .i64 t) := blk_at_cells (i := 2) HX4.out rfl
              have hx3 : w4.cell? ⟨X, 3, none⟩ = some (.int .i64 p) := blk_at_cells (i := 3) HX4.out rfl
              have ha1 : w4.cell? ⟨wr.heap.size, 1, none⟩ = some (.int .i64 n) := blk_at_cells (i := 1) HA4.out rfl
              go_wp2_with fail
              refine (HRT.out _).mono ?_
              rintro e w5 ⟨rfl, hb⟩
              have HM5 := Aside0.mk (blk_below HM4.out hb)
              have HX5 := Aside0.mk (blk_below HX4.out hb)
              have HY5 := Aside0.mk (blk_below HY4.out hb)
              have HB5 := Aside0.mk (below_step HB4.out hb)
              clear hb hx0 hx1 hx2 hx3 ha1
              have hy0 : w5.cell? ⟨wr.heap.size + 1, 0, none⟩ = some (.int .i64 M) := blk_at_cells (i := 0) HY5.out rfl
              have hy1 : w5.cell? ⟨wr.heap.size + 1, 1, none⟩ = some (.int .i64 u) := blk_at_cells (i := 1) HY5.out rfl
              have hy2 : w5.cell? ⟨wr.heap.size + 1, 2, none⟩ = some (.int .i64 t) := blk_at_cells (i := 2) HY5.out rfl
              have hy3 : w5.cell? ⟨wr.heap.size + 1, 3, none⟩ = some (.int .i64 p) := blk_at_cells (i := 3) HY5.out rfl
              have hyf : ∀ i, w5.frozen? ⟨wr.heap.size + 1, i, none⟩ = false := fun i => blk_frozen HY5.out i
              go_wp2_with fail
              go_meet
              case rel =>
                have n1 : ¬ g = wr.heap.size + 1 := by omega
                have n2 : ¬ X = wr.heap.size + 1 := by omega
                have hb4 : w.heap.size ≤ wr.heap.size + 1 := by omega
                exact ⟨x, u2, t2, p2, rfl, rfl, HOK2, ⟨mt_far (mt_far (mt_far (mt_far HM5.out n1 _ _) n1 _ _) n1 _ _) n1 _ _⟩, ⟨Xt.put HY5.out _ _ _ _⟩,
                  ⟨Xt.far (Xt.far (Xt.far (Xt.far HX5.out n2 _ _) n2 _ _) n2 _ _) n2 _ _⟩, ⟨(((HB5.out.setCell hb4 _).setCell hb4 _).setCell hb4 _).setCell hb4 _⟩⟩
        case rest =>
          obtain ⟨x, u2, t2, p2, rfl, rfl, HO2, HR2, HY2, HX2, HB2⟩ := hcut
          clear HW1 HW2 HW3 HW4 HW5 HR HX HO HB
          have hy0 : wc.cell? ⟨wr.heap.size + 1, 0, none⟩ = some (.int .i64 M) := blk_at_cells (i := 0) HY2.out rfl
          have hy1 : wc.cell? ⟨wr.heap.size + 1, 1, none⟩ = some (.int .i64 u2) := blk_at_cells (i := 1) HY2.out rfl
          have hy2 : wc.cell? ⟨wr.heap.size + 1, 2, none⟩ = some (.int .i64 t2) := blk_at_cells (i := 2) HY2.out rfl
          have hy3 : wc.cell? ⟨wr.heap.size + 1, 3, none⟩ = some (.int .i64 p2) := blk_at_cells (i := 3) HY2.out rfl
          have hx0 : wc.cell? ⟨X, 0, none⟩ = some (.int .i64 M) := blk_at_cells (i := 0) HX2.out rfl
          have hx1 : wc.cell? ⟨X, 1, none⟩ = some (.int .i64 u) := blk_at_cells (i := 1) HX2.out rfl
          have hx2 : wc.cell? ⟨X, 2, none⟩ = some (.int .i64 t) := blk_at_cells (i := 2) HX2.out rfl
          have hx3 : wc.cell? ⟨X, 3, none⟩ = some (.int .i64 p) := blk_at_cells (i := 3) HX2.out rfl
          have hxf : ∀ i, wc.frozen? ⟨X, i, none⟩ = false := fun i => blk_frozen HX2.out i
          have hne : ¬ wr.heap.size + 1 = X := by omega
          have hW : Mt ((((wc.setCell ⟨X, 0, none⟩ (.int .i64 M)).setCell ⟨X, 1, none⟩ (.int .i64 u2)).setCell ⟨X, 2, none⟩ (.int .i64 t2)).setCell ⟨X, 3, none⟩ (.int .i64 p2)) g M u2 t2 p2 := mt_far (mt_far (mt_far (mt_far HR2.out hgX _ _) hgX _ _) hgX _ _) hgX _ _
          have hV : Xt ((((wc.setCell ⟨X, 0, none⟩ (.int .i64 M)).setCell ⟨X, 1, none⟩ (.int .i64 u2)).setCell ⟨X, 2, none⟩ (.int .i64 t2)).setCell ⟨X, 3, none⟩ (.int .i64 p2)) X M u2 t2 p2 := Xt.put HX2.out _ _ _ _
          have hB : Below w.heap.size w ((((wc.setCell ⟨X, 0, none⟩ (.int .i64 M)).setCell ⟨X, 1, none⟩ (.int .i64 u2)).setCell ⟨X, 2, none⟩ (.int .i64 t2)).setCell ⟨X, 3, none⟩ (.int .i64 p2)) := (((HB2.out.setCell hge3 _).setCell hge3 _).setCell hge3 _).setCell hge3 _
          have HW := Aside0.mk hW
          have HV := Aside0.mk hV
          have HBn := Aside0.mk hB
          clear hW hV hB
          go_upto_region 22 with (fail)
          clear hy0 hy1 hy2 hy3 hx0 hx1 hx2 hx3 hxf
          obtain ⟨o1, o2, o3, o4, o5, o6⟩ := HO2.out
          have m0 : (x != x) = false := by simp
          have m1 : (u2 != u2) = false := by simp
          have m2 : (t2 != t2) = false := by simp
          have m3 : (p2 != p2) = false := by simp
          have m4 : (M != M) = false := by simp
          have l1 : decide (M < u2) = false := decide_eq_false (by omega)
          have l2 : decide (p2 < u2) = false := decide_eq_false (by omega)
          have l3 : decide (M < p2) = false := decide_eq_false (by omega)
          clear o1 o2 o3 o4 o5 o6
          have HU := Aside0.mk (fun n => used_calls (World.drewN _ n) g M u2 t2 p2 (show Mt (World.drewN ((((wc.setCell ⟨X, 0, none⟩ (.int .i64 M)).setCell ⟨X, 1, none⟩ (.int .i64 u2)).setCell ⟨X, 2, none⟩ (.int .i64 t2)).setCell ⟨X, 3, none⟩ (.int .i64 p2)) n) g M u2 t2 p2 from HW.out))
          have HT := Aside0.mk (fun n => taken_calls (World.drewN _ n) g M u2 t2 p2 (show Mt (World.drewN ((((wc.setCell ⟨X, 0, none⟩ (.int .i64 M)).setCell ⟨X, 1, none⟩ (.int .i64 u2)).setCell ⟨X, 2, none⟩ (.int .i64 t2)).setCell ⟨X, 3, none⟩ (.int .i64 p2)) n) g M u2 t2 p2 from HW.out))
          have HP := Aside0.mk (fun n => top_calls (World.drewN _ n) g M u2 t2 p2 (show Mt (World.drewN ((((wc.setCell ⟨X, 0, none⟩ (.int .i64 M)).setCell ⟨X, 1, none⟩ (.int .i64 u2)).setCell ⟨X, 2, none⟩ (.int .i64 t2)).setCell ⟨X, 3, none⟩ (.int .i64 p2)) n) g M u2 t2 p2 from HW.out))
          have HM := Aside0.mk (fun n => most_calls (World.drewN _ n) g M u2 t2 p2 (show Mt (World.drewN ((((wc.setCell ⟨X, 0, none⟩ (.int .i64 M)).setCell ⟨X, 1, none⟩ (.int .i64 u2)).setCell ⟨X, 2, none⟩ (.int .i64 t2)).setCell ⟨X, 3, none⟩ (.int .i64 p2)) n) g M u2 t2 p2 from HW.out))
          have hz0 := blk_at_cells (v := .int .i64 M) (i := 0) HV.out rfl
          have hz1 := blk_at_cells (v := .int .i64 u2) (i := 1) HV.out rfl
          have hz2 := blk_at_cells (v := .int .i64 t2) (i := 2) HV.out rfl
          have hz3 := blk_at_cells (v := .int .i64 p2) (i := 3) HV.out rfl
          go_quiet (first | (go_at_call 11; exact quiet_left (HU.out _)) | (go_at_call 12; exact quiet_left (HT.out _)) | (go_at_call 13; exact quiet_left (HP.out _)) | (go_at_call 20; exact quiet_left (HM.out _)))
          go_wp2_with fail
          go_roundg (len - (k + 1))
          case measure => have := HK.out; omega
          case rel => exact ⟨k + 1, u2, t2, p2, by go_num, by omega, HO2, ⟨rfl⟩, ⟨HW.out⟩, ⟨HV.out⟩, ⟨pw_below_drewN HBn.out _⟩⟩
      · go_wp2_with fail
        refine (clear_nil _).mono ?_
        rintro e w4 ⟨rfl, rfl⟩
        go_wp2_with fail
        refine (take_nil _ _).mono ?_
        rintro e w4 ⟨rfl, hb⟩
        have HB4 := Aside0.mk (below_step HB.out hb)
        clear hb
        go_wp2_with fail
        refine (give_nil _ _).mono ?_
        rintro e w5 ⟨rfl, hb⟩
        have HB5 := Aside0.mk (below_step HB4.out hb)
        clear hb
        go_wp2_with fail
        refine (used_nil _).mono ?_
        rintro e w6 ⟨rfl, rfl⟩
        go_wp2_with fail
        refine (taken_nil _).mono ?_
        rintro e w6 ⟨rfl, rfl⟩
        go_wp2_with fail
        refine (top_nil _).mono ?_
        rintro e w6 ⟨rfl, rfl⟩
        go_wp2_with fail
        refine (most_nil _).mono ?_
        rintro e w6 ⟨rfl, rfl⟩
        go_wp2_with fail
        go_ret
        exact ⟨rfl, HB5.out⟩
end Go.Proofs.Ytkdkdjhdoplicaa.Plays
