/- The law ItemApart, walked. -/
import Derived.Test.YtkdkdjhdoplicaaItU
import Derived.Test.YtkdkdjhdoplicaaItY
namespace Go.Proofs.Ytkdkdjhdoplicaa.It
open Go.RowKit Go.Proofs.YtkdkdjhdoplicaaW.PrintWords Go.Proofs.YtkdkdjhdoplicaaW.PrintLast Go.Proofs.YtkdkdjhdoplicaaW.PrintMore Go.Proofs.Ytkdkdjhdoplicaa.Md

theorem C_one (x : S43) (A : Option Addr) (c : Nat) (w : World) (hC : Kd.C k43 w A x.f2.length x.f2) (hl : x.f2.length ≤ c) : Kd.C k43 (w.alloc (.cells #[.string x.f0, .bool x.f1, .slice A x.f2.length c] 43)) (some ⟨w.heap.size, 0, none⟩) 1 [x] := by
  refine ⟨rfl, by omega, fun _ => ⟨_, rfl, fun j p hj => ?_⟩⟩
  have hc := fun i => blk_cell (blk_new w (.cells #[.string x.f0, .bool x.f1, .slice A x.f2.length c] 43)) i
  match j, hj with
  | 0, hj =>
    cases hj
    refine ⟨_, rfl, k43_mk _ x hl (Kd.C_below hC (below_alloc (Below.refl _ _) _)), fun i u hu => ?_⟩
    match i, hu with
    | 0, hu => cases hu; exact hc 0
    | 1, hu => cases hu; exact hc 1
    | 2, hu => cases hu; exact hc 2
    | n + 3, hu => simp at hu
  | n + 1, hj => simp at hj
/-- the row that List made of one item -/
theorem own_one {x : S43} {W w : World} {B : Nat} {v : Value} (h : OwnRow (k43.K W) 43 3 w B v [x]) :
    ∃ g cap cur A n, v = .slice (some ⟨g, 0, none⟩) 1 cap ∧ B ≤ g ∧ w.heap[g]? = some (.cells cur 43 (0, 0)) ∧ cur[0]? = some (.string x.f0) ∧ cur[1]? = some (.bool x.f1) ∧ cur[2]? = some (.slice A x.f2.length n) := by
  obtain ⟨inner, ho, hr⟩ := h
  rcases ho.2 with ⟨_, h0⟩ | ⟨g, cap, cur, rfl, hB, hb, _, _, hz, htk⟩
  · simp at h0
  · have hK := hr.2 0 x rfl
    obtain ⟨A, n, e, _, _⟩ := k43_open hK
    have g0 : ∀ j, j < 3 → cur[j]? = ([.string x.f0, .bool x.f1, .slice A x.f2.length n] : List Value)[j]? := by
      intro j hj
      rw [← e, List.getElem?_take, if_pos hj, List.getElem?_drop, ← htk, List.getElem?_take, if_pos (by simp; omega)]
      simp
    exact ⟨g, cap, cur, A, n, rfl, hB, hb, g0 0 (by omega), g0 1 (by omega), g0 2 (by omega)⟩

set_option maxRecDepth 100000 in
set_option maxHeartbeats 2000000 in
theorem apart (x : S43) (A : Option Addr) (c : Nat) (w : World) (h : Came x A c w) :
    Calls Try.prog 5 #[.agg #[.string x.f0, .bool x.f1, .slice A x.f2.length c]] w fun e w' => e = .returned (.bool true) ∧ Below w.heap.size w w' := by
  have HG := Aside0.mk h.isGreat
  obtain ⟨gr, hgr⟩ : ∃ gr, great x = gr := ⟨_, rfl⟩
  rw [hgr] at HG
  have hb0 : Below w.heap.size w (w.alloc (.cells #[.string x.f0, .bool x.f1, .slice A x.f2.length c] 43)) := below_alloc (Below.refl _ _) _
  have HB0 := Aside0.mk hb0
  have HK0 := Aside0.mk (blk_new w (.cells #[.string x.f0, .bool x.f1, .slice A x.f2.length c] 43))
  clear hb0
  cases gr
  · have HM := Aside0.mk (h.isMay hgr)
    have HS := Aside0.mk (h.isShown hgr)
    obtain ⟨my, hmy⟩ : ∃ my, may x = my := ⟨_, rfl⟩
    rw [hmy] at HM
    cases my
    · clear h hgr hmy
      go_enter Try.func5, Try.ntmps5
      go_wp2_with fail
      refine (alive _).mono ?_
      rintro e w1 ⟨rfl, hb⟩
      have HB1 := Aside0.mk (below_step HB0.out hb)
      have HK1 := Aside0.mk (blk_below HK0.out hb)
      have b0 : w1.cell? ⟨w.heap.size, 0, none⟩ = some (.string x.f0) := blk_at_cells (i := 0) HK1.out rfl
      have b1 : w1.cell? ⟨w.heap.size, 1, none⟩ = some (.bool x.f1) := blk_at_cells (i := 1) HK1.out rfl
      have b2 : w1.cell? ⟨w.heap.size, 2, none⟩ = some (.slice A x.f2.length c) := blk_at_cells (i := 2) HK1.out rfl
      clear hb
      go_wp2_with fail
      refine (HG.out _ HB1.out).mono ?_
      rintro e w2 ⟨rfl, hb⟩
      have HB2 := Aside0.mk (below_step HB1.out hb)
      have HK2 := Aside0.mk (blk_below HK1.out hb)
      clear hb b0 b1 b2
      have b0 : w2.cell? ⟨w.heap.size, 0, none⟩ = some (.string x.f0) := blk_at_cells (i := 0) HK2.out rfl
      have b1 : w2.cell? ⟨w.heap.size, 1, none⟩ = some (.bool x.f1) := blk_at_cells (i := 1) HK2.out rfl
      have b2 : w2.cell? ⟨w.heap.size, 2, none⟩ = some (.slice A x.f2.length c) := blk_at_cells (i := 2) HK2.out rfl
      go_wp2_with fail
      refine (HM.out _ HB2.out).mono ?_
      rintro e w3 ⟨rfl, hb⟩
      have HB3 := Aside0.mk (below_step HB2.out hb)
      clear hb b0 b1 b2
      go_wp2_with fail
      go_ret
      exact ⟨rfl, HB3.out⟩
    · have HC := Aside0.mk (h.isCopied hmy)
      have HCM := Aside0.mk h
      obtain ⟨sh, hsh⟩ : ∃ sh, bs (shw x) = sh := ⟨_, rfl⟩
      rw [hsh] at HS
      have hcx : cnt x ≤ 1024 := by simp only [may, Bool.and_eq_true, decide_eq_true_eq] at hmy; omega
      have hsl : x.f2.length ≤ 1024 := by
        have := cnts_len x.f2
        cases x
        simp only [cnt] at hcx
        simp only at this ⊢
        omega
      have HSL : Aside0 (∀ i (hi : i < x.f2.length), (x.f2[i]'hi).f2.length ≤ 1024) := ⟨fun i hi => by
        have h1 := cnt_sub hi
        have h2 := cnts_len (x.f2[i]'hi).f2
        revert h1 h2
        cases (x.f2[i]'hi)
        simp only [cnt]
        omega⟩
      clear hsh hmy hgr h hcx
      go_enter Try.func5, Try.ntmps5
      go_wp2_with fail
      refine (alive _).mono ?_
      rintro e w1 ⟨rfl, hb⟩
      have HB1 := Aside0.mk (below_step HB0.out hb)
      have HK1 := Aside0.mk (blk_below HK0.out hb)
      have b0 : w1.cell? ⟨w.heap.size, 0, none⟩ = some (.string x.f0) := blk_at_cells (i := 0) HK1.out rfl
      have b1 : w1.cell? ⟨w.heap.size, 1, none⟩ = some (.bool x.f1) := blk_at_cells (i := 1) HK1.out rfl
      have b2 : w1.cell? ⟨w.heap.size, 2, none⟩ = some (.slice A x.f2.length c) := blk_at_cells (i := 2) HK1.out rfl
      clear hb
      go_wp2_with fail
      refine (HG.out _ HB1.out).mono ?_
      rintro e w2 ⟨rfl, hb⟩
      have HB2 := Aside0.mk (below_step HB1.out hb)
      have HK2 := Aside0.mk (blk_below HK1.out hb)
      clear hb b0 b1 b2
      have b0 : w2.cell? ⟨w.heap.size, 0, none⟩ = some (.string x.f0) := blk_at_cells (i := 0) HK2.out rfl
      have b1 : w2.cell? ⟨w.heap.size, 1, none⟩ = some (.bool x.f1) := blk_at_cells (i := 1) HK2.out rfl
      have b2 : w2.cell? ⟨w.heap.size, 2, none⟩ = some (.slice A x.f2.length c) := blk_at_cells (i := 2) HK2.out rfl
      go_wp2_with fail
      refine (HM.out _ HB2.out).mono ?_
      rintro e w3 ⟨rfl, hb⟩
      have HB3 := Aside0.mk (below_step HB2.out hb)
      have HK3 := Aside0.mk (blk_below HK2.out hb)
      clear hb b0 b1 b2
      have b0 : w3.cell? ⟨w.heap.size, 0, none⟩ = some (.string x.f0) := blk_at_cells (i := 0) HK3.out rfl
      have b1 : w3.cell? ⟨w.heap.size, 1, none⟩ = some (.bool x.f1) := blk_at_cells (i := 1) HK3.out rfl
      have b2 : w3.cell? ⟨w.heap.size, 2, none⟩ = some (.slice A x.f2.length c) := blk_at_cells (i := 2) HK3.out rfl
      go_wp2_with fail
      refine (HS.out _ HB3.out).mono ?_
      rintro e w4 ⟨rfl, hb⟩
      have HB4 := Aside0.mk (below_step HB3.out hb)
      have HK4 := Aside0.mk (blk_below HK3.out hb)
      clear hb b0 b1 b2
      have b0 : w4.cell? ⟨w.heap.size, 0, none⟩ = some (.string x.f0) := blk_at_cells (i := 0) HK4.out rfl
      have b1 : w4.cell? ⟨w.heap.size, 1, none⟩ = some (.bool x.f1) := blk_at_cells (i := 1) HK4.out rfl
      have b2 : w4.cell? ⟨w.heap.size, 2, none⟩ = some (.slice A x.f2.length c) := blk_at_cells (i := 2) HK4.out rfl
      go_wp2_with fail
      refine (HC.out _ HB4.out).mono ?_
      rintro e w5 ⟨⟨v, rfl, hR⟩, hb⟩
      obtain ⟨A5, c5, rfl, hsh5⟩ := sh_of_R hR
      have HB5 := Aside0.mk (below_step HB4.out hb)
      have HK5 := Aside0.mk (blk_below HK4.out hb)
      have HSH := Aside0.mk hsh5
      have HL45 := Aside0.mk hb.size
      have HLT4 := Aside0.mk (blk_lt HK4.out)
      have hlt5 := blk_lt HK5.out
      clear hb b0 b1 b2 hR hsh5
      have b0 : w5.cell? ⟨w.heap.size, 0, none⟩ = some (.string x.f0) := blk_at_cells (i := 0) HK5.out rfl
      have b1 : w5.cell? ⟨w.heap.size, 1, none⟩ = some (.bool x.f1) := blk_at_cells (i := 1) HK5.out rfl
      have b2 : w5.cell? ⟨w.heap.size, 2, none⟩ = some (.slice A x.f2.length c) := blk_at_cells (i := 2) HK5.out rfl
      have HC1 : Aside0 (Kd.C k43 ((w5.alloc (.cells #[.string x.f0, .bool x.f1, .slice A5 x.f2.length c5] 43)).alloc (.cells #[.string x.f0, .bool x.f1, .slice A x.f2.length c] 43)) (some ⟨w5.heap.size + 1, 0, none⟩) 1 [x]) := ⟨by
        have := C_one x A c (w5.alloc (.cells #[.string x.f0, .bool x.f1, .slice A5 x.f2.length c5] 43)) (Kd.C_below HCM.out.rd (below_alloc HB5.out _)) HCM.out.le
        rwa [World.size_alloc] at this⟩
      have HK5b := Aside0.mk (blk_alloc (blk_new w5 (.cells #[.string x.f0, .bool x.f1, .slice A5 x.f2.length c5] 43)) (.cells #[.string x.f0, .bool x.f1, .slice A x.f2.length c] 43))
      go_wp2_with fail
      refine (list_calls [x] _ 1 _ HC1.out (by simp) (by simp)).mono ?_
      rintro e w6 ⟨⟨v, rfl, ho⟩, hb⟩
      obtain ⟨gl, cap, cur, AL, nl, rfl, hgl, hbl, u0, u1, u2⟩ := own_one ho
      have HB6 := Aside0.mk (below_step (below_alloc (below_alloc HB5.out (.cells #[.string x.f0, .bool x.f1, .slice A5 x.f2.length c5] 43)) (.cells #[.string x.f0, .bool x.f1, .slice A x.f2.length c] 43)) hb)
      have HK6 := Aside0.mk (blk_below (blk_alloc (blk_alloc HK5.out (.cells #[.string x.f0, .bool x.f1, .slice A5 x.f2.length c5] 43)) (.cells #[.string x.f0, .bool x.f1, .slice A x.f2.length c] 43)) hb)
      have HC6 := Aside0.mk (blk_below HK5b.out hb)
      have HSH6 : Aside0 (Sh w6 w4.heap.size w5.heap.size A5 x.f2) := ⟨HSH.out.same fun k h1 h2 => by
        rw [hb.block k (by rw [World.size_alloc, World.size_alloc]; omega), Below.heap_alloc _ _ _ (by rw [World.size_alloc]; omega), Below.heap_alloc _ _ _ h2]⟩
      have HL6 := Aside0.mk hbl
      have hgl2 : w5.heap.size + 2 ≤ gl := by rw [World.size_alloc, World.size_alloc] at hgl; omega
      have HU0 := Aside0.mk u0
      have HU1 := Aside0.mk u1
      have HU2 := Aside0.mk u2
      clear ho hb hgl hbl u0 u1 u2 HSH HC1 HK5b b0 b1 b2 hlt5
      have hl5 : w5.heap.size < w6.heap.size := blk_lt HC6.out
      have hgl3 : gl < w6.heap.size := blk_lt HL6.out
      have hl0 : w.heap.size < w6.heap.size := blk_lt HK6.out
      have b4 : w6.cell? ⟨w5.heap.size, 2, none⟩ = some (.slice A5 x.f2.length c5) := blk_at_cells (i := 2) HC6.out rfl
      go_wp2_with fail
      obtain ⟨wL, hwL⟩ : ∃ wL, w6.alloc (.cells #[.string ⟨#[]⟩, .bool true, .slice (some ⟨gl, 0, none⟩) 1 cap] 43) = wL := ⟨_, rfl⟩
      have HSHL : Aside0 (Sh wL w4.heap.size w5.heap.size A5 x.f2) := ⟨HSH6.out.same fun k h1 h2 => by rw [← hwL, Below.heap_alloc _ _ _ (by omega)]⟩
      have HKL : Aside0 (wL.heap[w.heap.size]? = some (.cells #[.string x.f0, .bool x.f1, .slice A x.f2.length c] 43 (0, 0))) := ⟨by rw [← hwL]; exact blk_alloc HK6.out _⟩
      have HCL : Aside0 (wL.heap[w5.heap.size]? = some (.cells #[.string x.f0, .bool x.f1, .slice A5 x.f2.length c5] 43 (0, 0))) := ⟨by rw [← hwL]; exact blk_alloc HC6.out _⟩
      have HLL : Aside0 (wL.heap[gl]? = some (.cells cur 43 (0, 0))) := ⟨by rw [← hwL]; exact blk_alloc HL6.out _⟩
      have HTL : Aside0 (wL.heap[w6.heap.size]? = some (.cells #[.string ⟨#[]⟩, .bool true, .slice (some ⟨gl, 0, none⟩) 1 cap] 43 (0, 0))) := ⟨by rw [← hwL]; exact blk_new _ _⟩
      have HBL : Aside0 (Below w.heap.size w wL) := ⟨by rw [← hwL]; exact below_alloc HB6.out _⟩
      rw [hwL]
      clear hwL HSH6 HK6 HC6 HL6 HB6 b4
      go_loopg [6] x.f2.length (fun kq v6 wr => ∃ i : Nat, v6 = .int .i64 i ∧ i ≤ x.f2.length ∧ Aside0 (kq = x.f2.length - i) ∧ Aside0 (Sh wr w4.heap.size w5.heap.size A5 x.f2) ∧ Aside0 (Mod (fun k => w4.heap.size ≤ k ∧ k < w5.heap.size) wL wr))
      case atStart => exact ⟨0, by go_num, Nat.zero_le _, ⟨rfl⟩, HSHL, ⟨Mod.refl _ _⟩⟩
      case round =>
        clear HSHL
        obtain ⟨i, rfl, hi, HK, HSr, HMr⟩ := hrel
        have hk4 := HMr.out.blk HCL.out (fun h => Nat.lt_irrefl _ h.2)
        by_cases hlt : i < x.f2.length
        · have hltb : decide (i < x.f2.length) = true := decide_eq_true hlt
          obtain ⟨g, hA, hg1, hg2, hel⟩ := HSr.out.1 i hlt
          subst hA
          obtain ⟨A2, cc2, hc2, hro2⟩ := HSr.out.2 i hlt g rfl
          have b4 : (‹World›).cell? ⟨w5.heap.size, 2, none⟩ = some (.slice (some ⟨g, 0, none⟩) x.f2.length c5) := blk_at_cells (i := 2) hk4 rfl
          have p1 : ((0 : Int) ≤ (i : Int)) = True := eq_true (by omega)
          have q1 : ((i : Int) < (x.f2.length : Nat)) = True := eq_true (by omega)
          obtain ⟨m, hm⟩ : ∃ m, (x.f2[i]'hlt).f2.length = m := ⟨_, rfl⟩
          have hm2 : m ≤ 1024 := by rw [← hm]; exact HSL.out i hlt
          rw [hm] at hc2
          have HMM := Aside0.mk hm
          clear hk4 hel hro2 hm
          go_wp2_with fail
          clear b4 hc2
          go_loopg [7] m (fun kq v7 wr => ∃ k : Nat, v7 = .int .i64 k ∧ k ≤ m ∧ Aside0 (kq = m - k) ∧ Aside0 (Sh wr w4.heap.size w5.heap.size (some ⟨g, 0, none⟩) x.f2) ∧ Aside0 (Mod (fun k => w4.heap.size ≤ k ∧ k < w5.heap.size) wL wr))
          case atStart => exact ⟨0, by go_num, Nat.zero_le _, ⟨rfl⟩, HSr, HMr⟩
          case round =>
            clear HSr HMr
            obtain ⟨k, rfl, hkm, HK2, HS2, HM2⟩ := hrel
            have hk4 := HM2.out.blk HCL.out (fun h => Nat.lt_irrefl _ h.2)
            have b4 : (‹World›).cell? ⟨w5.heap.size, 2, none⟩ = some (.slice (some ⟨g, 0, none⟩) x.f2.length c5) := blk_at_cells (i := 2) hk4 rfl
            obtain ⟨A2, cc2, hc2, hro2⟩ := HS2.out.2 i hlt g rfl
            rw [HMM.out] at hc2 hro2
            by_cases hk : k < m
            · have hkb : decide (k < m) = true := decide_eq_true hk
              obtain ⟨g2, hA2, hg21, hg22, ⟨t2, ht2⟩, _, ft2, _⟩ := hro2 k hk
              subst hA2
              have p2 : ((0 : Int) ≤ (k : Int)) = True := eq_true (by omega)
              have q2 : ((k : Int) < (m : Nat)) = True := eq_true (by omega)
              have hne2 : g2 ≠ w5.heap.size := Nat.ne_of_lt hg22
              have HT2 := Aside0.mk ht2
              clear hk4
              go_wp2_with fail
              go_roundg (m - (k + 1))
              case measure => have := HK2.out; omega
              case rel => exact ⟨k + 1, by go_num, by omega, ⟨rfl⟩, ⟨HS2.out.str HT2.out⟩, ⟨HM2.out.setCell _ _ (.inl ⟨hg21, hg22⟩)⟩⟩
            · have hkb : decide (k < m) = false := decide_eq_false hk
              obtain ⟨g', hA', _, _, ⟨t1, ht1⟩, ⟨b1, hb1⟩, ft1, fb1⟩ := HS2.out.1 i hlt
              cases hA'
              have hne1 : g ≠ w5.heap.size := Nat.ne_of_lt hg2
              have HT1 := Aside0.mk ht1
              have HB1' : Aside0 (∀ u, ((‹World›).setCell ⟨g, i * 3, none⟩ (.string u)).cell? ⟨g, i * 3 + 1, none⟩ = some (.bool b1)) := ⟨fun u => by rw [World.cell?_setCell_other _ _ _ _ (by intro e; injection e with _ e2; omega)]; exact hb1⟩
              clear hk4 hro2
              go_wp2_with fail
              go_roundg (x.f2.length - (i + 1))
              case measure => have := HK.out; omega
              case rel => exact ⟨i + 1, by go_num, by omega, ⟨rfl⟩, ⟨(HS2.out.str HT1.out).boo (HB1'.out _)⟩, ⟨(HM2.out.setCell _ _ (.inl ⟨hg1, hg2⟩)).setCell _ _ (.inl ⟨hg1, hg2⟩)⟩⟩
        · have hltb : decide (i < x.f2.length) = false := decide_eq_false hlt
          have b4 : (‹World›).cell? ⟨w5.heap.size, 2, none⟩ = some (.slice A5 x.f2.length c5) := blk_at_cells (i := 2) hk4 rfl
          have ht5 := HMr.out.blk HTL.out (fun h => by omega)
          have b5 : (‹World›).cell? ⟨w6.heap.size, 2, none⟩ = some (.slice (some ⟨gl, 0, none⟩) 1 cap) := blk_at_cells (i := 2) ht5 rfl
          have hlr := HMr.out.blk HLL.out (fun h => by omega)
          have r0 : (‹World›).cell? ⟨gl, 0, none⟩ = some (.string x.f0) := blk_at_cells (i := 0) hlr HU0.out
          have r1 : (‹World›).cell? ⟨gl, 1, none⟩ = some (.bool x.f1) := blk_at_cells (i := 1) hlr HU1.out
          have r2 : (‹World›).cell? ⟨gl, 2, none⟩ = some (.slice AL x.f2.length nl) := blk_at_cells (i := 2) hlr HU2.out
          have rf0 := blk_frozen hlr 0
          have rf1 := blk_frozen hlr 1
          have rf2 := blk_frozen hlr 2
          have hx := HMr.out.blk HKL.out (fun h => by have := HLT4.out; omega)
          have x0 : (‹World›).cell? ⟨w.heap.size, 0, none⟩ = some (.string x.f0) := blk_at_cells (i := 0) hx rfl
          have x1 : (‹World›).cell? ⟨w.heap.size, 1, none⟩ = some (.bool x.f1) := blk_at_cells (i := 1) hx rfl
          have x2 : (‹World›).cell? ⟨w.heap.size, 2, none⟩ = some (.slice A x.f2.length c) := blk_at_cells (i := 2) hx rfl
          have hgw : gl ≠ w.heap.size := by have := HLT4.out; have := HL45.out; omega
          clear hk4 ht5 hlr hx
          have HBr : Aside0 (Below w.heap.size w ((((‹World›).setCell ⟨gl, 0, none⟩ (.string ⟨#[]⟩)).setCell ⟨gl, 1, none⟩ (.bool false)).setCell ⟨gl, 2, none⟩ (.slice none 0 0))) := ⟨by
            have h1 := HLT4.out
            have h2 := HL45.out
            refine below_set (below_set (below_set (HMr.out.below HBL.out HBL.out.size (fun i hi => by omega)) ?_) ?_) ?_ <;> (show w.heap.size ≤ gl; omega)⟩
          go_wp2_with fail
          refine (HS.out _ HBr.out).mono ?_
          rintro e w9 ⟨rfl, hb⟩
          have HB9 := Aside0.mk (below_step HBr.out hb)
          clear hb
          go_wp2_with fail
          go_ret
          exact ⟨rfl, HB9.out⟩
  · clear h hgr
    go_enter Try.func5, Try.ntmps5
    go_wp2_with fail
    refine (alive _).mono ?_
    rintro e w1 ⟨rfl, hb⟩
    have HB1 := Aside0.mk (below_step HB0.out hb)
    have HK1 := Aside0.mk (blk_below HK0.out hb)
    have b0 : w1.cell? ⟨w.heap.size, 0, none⟩ = some (.string x.f0) := blk_at_cells (i := 0) HK1.out rfl
    have b1 : w1.cell? ⟨w.heap.size, 1, none⟩ = some (.bool x.f1) := blk_at_cells (i := 1) HK1.out rfl
    have b2 : w1.cell? ⟨w.heap.size, 2, none⟩ = some (.slice A x.f2.length c) := blk_at_cells (i := 2) HK1.out rfl
    clear hb
    go_wp2_with fail
    refine (HG.out _ HB1.out).mono ?_
    rintro e w2 ⟨rfl, hb⟩
    have HB2 := Aside0.mk (below_step HB1.out hb)
    clear hb b0 b1 b2
    go_wp2_with fail
    go_ret
    exact ⟨rfl, HB2.out⟩
theorem apart_w (w : World) (x : S43) (A : Option Addr) (c : Nat) (h : Came x A c w) : Calls Try.prog 5 #[.agg #[.string x.f0, .bool x.f1, .slice A x.f2.length c]] w fun e w' => e = .returned (.bool true) ∧ Below w.heap.size w w' := apart x A c w h
end Go.Proofs.Ytkdkdjhdoplicaa.It
