/- The law ItemShows, walked. -/
import Derived.Test.YtkdkdjhdoplicaaItY
import Derived.Test.YtkdkdjhdoplicaaItZ
namespace Go.Proofs.Ytkdkdjhdoplicaa.It
open Go.RowKit Go.Proofs.YtkdkdjhdoplicaaW.PrintWords Go.Proofs.YtkdkdjhdoplicaaW.PrintLast Go.Proofs.YtkdkdjhdoplicaaW.PrintMore Go.Proofs.Ytkdkdjhdoplicaa.Md

theorem Came.isShow {x : S43} {A : Option Addr} {c : Nat} {w : World} (h : Came x A c w) (hg : great x = false) : ∀ W, Below w.heap.size w W → Calls Try.prog 27 #[.agg #[.string x.f0, .bool x.f1, .slice A x.f2.length c]] W fun e w' => e = .returned (if may x = true then .tuple #[.string (bs (shw x)), .int .i64 0] else .tuple #[.string ⟨#[]⟩, .int .i64 1]) ∧ Below W.heap.size W w' :=
  fun W hW => Show_calls x A c W (Kd.C_below h.rd hW) h.le (by have := great_no hg; omega)
theorem read_shown {x : S43} (hg : great x = false) (hm : may x = true) : ∀ W, Calls Try.prog 28 #[.string (bs (shw x))] W (Told x 0 W) := by
  have h1 := great_no hg
  simp only [may, Bool.and_eq_true, decide_eq_true_eq] at hm
  have := item_read (cnt x + 1) x (by omega) hm.1.1 1 0 [] (.inl rfl) (by omega) (by omega) (by omega) (by omega)
  rw [List.append_nil] at this
  obtain ⟨k, hk⟩ := this.rounds
  intro W
  have := read_good k (bs (shw x)) W x.f0 x.f1 x.f2 _ hk
  rwa [t43] at this
theorem same_self {x : S43} (hf : Fit x) : ∃ k, hatchwayref08_Same.f k x.f0 x.f1 x.f2 x.f0 x.f1 x.f2 = some true := (same_ev (cnt x + 1) x (by omega) hf).rounds

set_option maxRecDepth 100000 in
set_option maxHeartbeats 2000000 in
theorem shows_w (w : World) (x : S43) (A : Option Addr) (c : Nat) (h : Came x A c w) :
    Calls Try.prog 6 #[.agg #[.string x.f0, .bool x.f1, .slice A x.f2.length c]] w fun e w' => e = .returned (.bool true) ∧ Below w.heap.size w w' := by
  have HG := Aside0.mk h.isGreat
  obtain ⟨gr, hgr⟩ : ∃ gr, great x = gr := ⟨_, rfl⟩
  rw [hgr] at HG
  have hb0 : Below w.heap.size w (w.alloc (.cells #[.string x.f0, .bool x.f1, .slice A x.f2.length c] 43)) := below_alloc (Below.refl _ _) _
  have HB0 := Aside0.mk hb0
  have HK0 := Aside0.mk (blk_new w (.cells #[.string x.f0, .bool x.f1, .slice A x.f2.length c] 43))
  clear hb0
  cases gr
  · have HM := Aside0.mk (h.isMay hgr)
    have HS := Aside0.mk (h.isShown hgr)
    have HW := Aside0.mk (h.isShow hgr)
    obtain ⟨my, hmy⟩ : ∃ my, may x = my := ⟨_, rfl⟩
    rw [hmy] at HM HW
    cases my
    · have HW' : Aside0 (∀ W, Below w.heap.size w W → Calls Try.prog 27 #[.agg #[.string x.f0, .bool x.f1, .slice A x.f2.length c]] W fun e w' => e = .returned (.tuple #[.string ⟨#[]⟩, .int .i64 1]) ∧ Below W.heap.size W w') := ⟨by simpa using HW.out⟩
      clear h hgr hmy HW HS
      go_enter Try.func6, Try.ntmps6
      go_wp2_with fail
      refine (alive _).mono ?_
      rintro e w1 ⟨rfl, hb⟩
      have HB1 := Aside0.mk (below_step HB0.out hb)
      have HK1 := Aside0.mk (blk_below HK0.out hb)
      have b0 : w1.cell? ⟨w.heap.size, 0, none⟩ = some (.string x.f0) := blk_at_cells (i := 0) HK1.out rfl
      have b1 : w1.cell? ⟨w.heap.size, 1, none⟩ = some (.bool x.f1) := blk_at_cells (i := 1) HK1.out rfl
      have b2 : w1.cell? ⟨w.heap.size, 2, none⟩ = some (.slice A x.f2.length c) := blk_at_cells (i := 2) HK1.out rfl
      clear hb
      go_wp2_with fail
      refine (HG.out _ HB1.out).mono ?_
      rintro e w2 ⟨rfl, hb⟩
      have HB2 := Aside0.mk (below_step HB1.out hb)
      have HK2 := Aside0.mk (blk_below HK1.out hb)
      clear hb b0 b1 b2
      have b0 : w2.cell? ⟨w.heap.size, 0, none⟩ = some (.string x.f0) := blk_at_cells (i := 0) HK2.out rfl
      have b1 : w2.cell? ⟨w.heap.size, 1, none⟩ = some (.bool x.f1) := blk_at_cells (i := 1) HK2.out rfl
      have b2 : w2.cell? ⟨w.heap.size, 2, none⟩ = some (.slice A x.f2.length c) := blk_at_cells (i := 2) HK2.out rfl
      go_wp2_with fail
      refine (HW'.out _ HB2.out).mono ?_
      rintro e w3 ⟨rfl, hb⟩
      have HB3 := Aside0.mk (below_step HB2.out hb)
      have HK3 := Aside0.mk (blk_below HK2.out hb)
      clear hb b0 b1 b2
      have b0 : w3.cell? ⟨w.heap.size, 0, none⟩ = some (.string x.f0) := blk_at_cells (i := 0) HK3.out rfl
      have b1 : w3.cell? ⟨w.heap.size, 1, none⟩ = some (.bool x.f1) := blk_at_cells (i := 1) HK3.out rfl
      have b2 : w3.cell? ⟨w.heap.size, 2, none⟩ = some (.slice A x.f2.length c) := blk_at_cells (i := 2) HK3.out rfl
      go_wp2_with fail
      refine (HM.out _ HB3.out).mono ?_
      rintro e w4 ⟨rfl, hb⟩
      have HB4 := Aside0.mk (below_step HB3.out hb)
      clear hb b0 b1 b2
      go_wp2_with fail
      go_ret
      exact ⟨rfl, HB4.out⟩
    · have HW' : Aside0 (∀ W, Below w.heap.size w W → Calls Try.prog 27 #[.agg #[.string x.f0, .bool x.f1, .slice A x.f2.length c]] W fun e w' => e = .returned (.tuple #[.string (bs (shw x)), .int .i64 0]) ∧ Below W.heap.size W w') := ⟨by simpa using HW.out⟩
      have HR := Aside0.mk (read_shown hgr hmy)
      obtain ⟨k, hk⟩ := same_self (fit_C h.rd)
      have HQ : Aside0 (∀ W A' c', Below w.heap.size w W → Kd.C k43 W A' x.f2.length x.f2 → x.f2.length ≤ c' → Calls Try.prog 29 #[.agg #[.string x.f0, .bool x.f1, .slice A x.f2.length c], .agg #[.string x.f0, .bool x.f1, .slice A' x.f2.length c']] W fun e w' => e = .returned (.bool true) ∧ Below W.heap.size W w') :=
        ⟨fun W A' c' hW hC' hl' => hatchwayref08_Same.calls k _ _ _ _ _ _ _ _ _ _ _ W (Kd.C_below h.rd hW) h.le hC' hl' hk⟩
      obtain ⟨sh, hsh⟩ : ∃ sh, bs (shw x) = sh := ⟨_, rfl⟩
      rw [hsh] at HS HW' HR
      clear h hgr hmy HW hk hsh
      go_enter Try.func6, Try.ntmps6
      go_wp2_with fail
      refine (alive _).mono ?_
      rintro e w1 ⟨rfl, hb⟩
      have HB1 := Aside0.mk (below_step HB0.out hb)
      have HK1 := Aside0.mk (blk_below HK0.out hb)
      have b0 : w1.cell? ⟨w.heap.size, 0, none⟩ = some (.string x.f0) := blk_at_cells (i := 0) HK1.out rfl
      have b1 : w1.cell? ⟨w.heap.size, 1, none⟩ = some (.bool x.f1) := blk_at_cells (i := 1) HK1.out rfl
      have b2 : w1.cell? ⟨w.heap.size, 2, none⟩ = some (.slice A x.f2.length c) := blk_at_cells (i := 2) HK1.out rfl
      clear hb
      go_wp2_with fail
      refine (HG.out _ HB1.out).mono ?_
      rintro e w2 ⟨rfl, hb⟩
      have HB2 := Aside0.mk (below_step HB1.out hb)
      have HK2 := Aside0.mk (blk_below HK1.out hb)
      clear hb b0 b1 b2
      have b0 : w2.cell? ⟨w.heap.size, 0, none⟩ = some (.string x.f0) := blk_at_cells (i := 0) HK2.out rfl
      have b1 : w2.cell? ⟨w.heap.size, 1, none⟩ = some (.bool x.f1) := blk_at_cells (i := 1) HK2.out rfl
      have b2 : w2.cell? ⟨w.heap.size, 2, none⟩ = some (.slice A x.f2.length c) := blk_at_cells (i := 2) HK2.out rfl
      go_wp2_with fail
      refine (HW'.out _ HB2.out).mono ?_
      rintro e w3 ⟨rfl, hb⟩
      have HB3 := Aside0.mk (below_step HB2.out hb)
      have HK3 := Aside0.mk (blk_below HK2.out hb)
      clear hb b0 b1 b2
      have b0 : w3.cell? ⟨w.heap.size, 0, none⟩ = some (.string x.f0) := blk_at_cells (i := 0) HK3.out rfl
      have b1 : w3.cell? ⟨w.heap.size, 1, none⟩ = some (.bool x.f1) := blk_at_cells (i := 1) HK3.out rfl
      have b2 : w3.cell? ⟨w.heap.size, 2, none⟩ = some (.slice A x.f2.length c) := blk_at_cells (i := 2) HK3.out rfl
      go_wp2_with fail
      refine (HM.out _ HB3.out).mono ?_
      rintro e w4 ⟨rfl, hb⟩
      have HB4 := Aside0.mk (below_step HB3.out hb)
      have HK4 := Aside0.mk (blk_below HK3.out hb)
      clear hb b0 b1 b2
      go_wp2_with fail
      refine (HR.out _).mono ?_
      rintro e w5 ⟨⟨A', c', rfl, hC', hl'⟩, hb⟩
      have HB5 := Aside0.mk (below_step HB4.out hb)
      have HK5 := Aside0.mk (blk_below HK4.out hb)
      have HC5 := Aside0.mk hC'
      have HL5 := Aside0.mk hl'
      have hlt5 := blk_lt HK5.out
      clear hb hC' hl'
      have b0 : w5.cell? ⟨w.heap.size, 0, none⟩ = some (.string x.f0) := blk_at_cells (i := 0) HK5.out rfl
      have b1 : w5.cell? ⟨w.heap.size, 1, none⟩ = some (.bool x.f1) := blk_at_cells (i := 1) HK5.out rfl
      have b2 : w5.cell? ⟨w.heap.size, 2, none⟩ = some (.slice A x.f2.length c) := blk_at_cells (i := 2) HK5.out rfl
      have HB6 : Aside0 (Below w.heap.size w (w5.alloc (.cells #[.string x.f0, .bool x.f1, .slice A' x.f2.length c'] 43))) := ⟨below_alloc HB5.out _⟩
      have HK6 := Aside0.mk (blk_alloc HK5.out (.cells #[.string x.f0, .bool x.f1, .slice A' x.f2.length c'] 43))
      have HY6 := Aside0.mk (blk_new w5 (.cells #[.string x.f0, .bool x.f1, .slice A' x.f2.length c'] 43))
      go_wp2_with fail
      refine (HS.out _ HB6.out).mono ?_
      rintro e w7 ⟨rfl, hb⟩
      have HB7 := Aside0.mk (below_step HB6.out hb)
      have HK7 := Aside0.mk (blk_below HK6.out hb)
      have HY7 := Aside0.mk (blk_below HY6.out hb)
      have HC7 := Aside0.mk (Kd.C_below (Kd.C_below HC5.out (below_alloc (Below.refl _ _) (.cells #[.string x.f0, .bool x.f1, .slice A' x.f2.length c'] 43))) hb)
      clear hb b0 b1 b2 hlt5
      have b0 : w7.cell? ⟨w.heap.size, 0, none⟩ = some (.string x.f0) := blk_at_cells (i := 0) HK7.out rfl
      have b1 : w7.cell? ⟨w.heap.size, 1, none⟩ = some (.bool x.f1) := blk_at_cells (i := 1) HK7.out rfl
      have b2 : w7.cell? ⟨w.heap.size, 2, none⟩ = some (.slice A x.f2.length c) := blk_at_cells (i := 2) HK7.out rfl
      have y0 : w7.cell? ⟨w5.heap.size, 0, none⟩ = some (.string x.f0) := blk_at_cells (i := 0) HY7.out rfl
      have y1 : w7.cell? ⟨w5.heap.size, 1, none⟩ = some (.bool x.f1) := blk_at_cells (i := 1) HY7.out rfl
      have y2 : w7.cell? ⟨w5.heap.size, 2, none⟩ = some (.slice A' x.f2.length c') := blk_at_cells (i := 2) HY7.out rfl
      go_wp2_with fail
      refine (HQ.out _ _ _ HB7.out HC7.out HL5.out).mono ?_
      rintro e w8 ⟨rfl, hb⟩
      have HB8 := Aside0.mk (below_step HB7.out hb)
      clear hb b0 b1 b2 y0 y1 y2
      go_wp2_with fail
      go_ret
      exact ⟨rfl, HB8.out⟩
  · clear h hgr
    go_enter Try.func6, Try.ntmps6
    go_wp2_with fail
    refine (alive _).mono ?_
    rintro e w1 ⟨rfl, hb⟩
    have HB1 := Aside0.mk (below_step HB0.out hb)
    have HK1 := Aside0.mk (blk_below HK0.out hb)
    have b0 : w1.cell? ⟨w.heap.size, 0, none⟩ = some (.string x.f0) := blk_at_cells (i := 0) HK1.out rfl
    have b1 : w1.cell? ⟨w.heap.size, 1, none⟩ = some (.bool x.f1) := blk_at_cells (i := 1) HK1.out rfl
    have b2 : w1.cell? ⟨w.heap.size, 2, none⟩ = some (.slice A x.f2.length c) := blk_at_cells (i := 2) HK1.out rfl
    clear hb
    go_wp2_with fail
    refine (HG.out _ HB1.out).mono ?_
    rintro e w2 ⟨rfl, hb⟩
    have HB2 := Aside0.mk (below_step HB1.out hb)
    clear hb b0 b1 b2
    go_wp2_with fail
    go_ret
    exact ⟨rfl, HB2.out⟩
end Go.Proofs.Ytkdkdjhdoplicaa.It
