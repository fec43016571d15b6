/- List, Copy and alive of package item. -/
import Derived.Test.YtkdkdjhdoplicaaItS
import Derived.Test.YtkdkdjhdoplicaaItH7
import Derived.Test.YtkdkdjhdoplicaaItH1
import Derived.Laws.AppendOwn
import Derived.Laws.AppendOwnNone
namespace Go.Proofs.Ytkdkdjhdoplicaa.It
open Go.RowKit Go.Proofs.YtkdkdjhdoplicaaW.PrintWords Go.Proofs.YtkdkdjhdoplicaaW.PrintLast Go.Proofs.YtkdkdjhdoplicaaW.PrintMore Go.Proofs.Ytkdkdjhdoplicaa.Md

theorem row_cells {α : Type} {R : α → List Value → Prop} {size : Nat} {w : World} {ad : Addr} {ps : List α} (hs : 0 < size) (ho : ∀ p c, R p c → ∀ u ∈ c, u.oneCell' = true)
    (h : ∀ j p, ps[j]? = some p → ∃ c, c.length = size ∧ R p c ∧ ∀ i u, c[i]? = some u → w.cell? (ad.add (j * size + i)) = some u) :
    ∀ m, m ≤ ps.length → ∃ cs, Reps R size (ps.take m) cs ∧ (∀ j u, cs[j]? = some u → w.cell? (ad.add j) = some u) ∧ ∀ u ∈ cs, u.oneCell' = true
  | 0, _ => ⟨[], by simpa using Reps.none R size, fun j u h => by simp at h, fun u h => by cases h⟩
  | m + 1, hm => by
    obtain ⟨cs, h1, h2, h3⟩ := row_cells hs ho h m (by omega)
    have hlt : m < ps.length := by omega
    obtain ⟨c, k1, k2, k3⟩ := h m _ (List.getElem?_eq_getElem hlt)
    refine ⟨cs ++ c, by rw [List.take_succ_eq_append_getElem hlt]; exact h1.snoc k2 k1, fun j u hj => ?_, fun u hu => ?_⟩
    · rcases Nat.lt_or_ge j cs.length with hj2 | hj2
      · rw [List.getElem?_append_left hj2] at hj
        exact h2 j u hj
      · rw [List.getElem?_append_right hj2] at hj
        have := k3 _ u hj
        have hz : cs.length = m * size := by rw [h1.1, List.length_take, Nat.min_eq_left (by omega)]
        rw [hz] at this hj2
        rwa [Nat.add_sub_cancel' hj2] at this
    · rcases List.mem_append.1 hu with hu | hu
      · exact h3 u hu
      · exact ho _ _ k2 u hu

/-- a list made by List: its row is new; its elements read as they were handed in -/
structure Listed (xs : List S43) (w : World) (e : Ending) (w' : World) : Prop where
  ret : ∃ v, e = .returned (.agg #[.string ⟨#[]⟩, .bool true, v]) ∧ OwnRow (k43.K w) 43 3 w' w.heap.size v xs
  below : Below w.heap.size w w'

theorem list_pack {w w' : World} {v' : Value} {n : Nat} {cs : List Value} (hn : 0 < n) (hown : w'.ownsRow (w.heap.size + 1) 43 3 v' (0 + n) ([] ++ cs)) (hg : (w.alloc (.cells #[.string ⟨#[]⟩, .bool false, .slice none 0 0] 43)).grownBy w' (Value.ownBlock (.slice none 0 0))) :
    ∃ g cap, v' = .slice (some ⟨g, 0, none⟩) n cap ∧ Aside0 (w'.heap[w.heap.size]? = some (.cells #[.string ⟨#[]⟩, .bool false, .slice none 0 0] 43 (0, 0))) ∧ Aside0 (Below w.heap.size w w') ∧ Aside0 (w'.ownsRow w.heap.size 43 3 (.slice (some ⟨g, 0, none⟩) n cap) n cs) ∧
      w'.cell? ⟨w.heap.size, 0, none⟩ = some (.string ⟨#[]⟩) ∧ w'.cell? ⟨w.heap.size, 1, none⟩ = some (.bool false) ∧ w'.cell? ⟨w.heap.size, 2, none⟩ = some (.slice none 0 0) ∧ w'.frozen? ⟨w.heap.size, 0, none⟩ = false ∧ w'.frozen? ⟨w.heap.size, 1, none⟩ = false ∧ w'.frozen? ⟨w.heap.size, 2, none⟩ = false ∧ Aside0 (g ≠ w.heap.size) := by
  rw [Nat.zero_add, List.nil_append] at hown
  have hbk : w'.heap[w.heap.size]? = some (.cells #[.string ⟨#[]⟩, .bool false, .slice none 0 0] 43 (0, 0)) := (hg.block _ (by rw [World.size_alloc]; omega) (by simp [Value.ownBlock])).trans (blk_new w _)
  obtain ⟨g, cap, e, _⟩ := hown.form hn
  subst e
  refine ⟨g, cap, rfl, ⟨hbk⟩, ⟨(below_alloc (Below.refl w.heap.size w) _).grown hg (by rw [World.size_alloc]; omega) (by simp [Value.ownBlock])⟩, ⟨own_weaken hown (Nat.le_succ _)⟩, blk_at_cells (i := 0) hbk rfl, blk_at_cells (i := 1) hbk rfl, blk_at_cells (i := 2) hbk rfl, blk_frozen hbk 0, blk_frozen hbk 1, blk_frozen hbk 2, ⟨?_⟩⟩
  have := own_base hown g rfl
  omega

set_option maxRecDepth 100000 in
set_option maxHeartbeats 2000000 in
theorem list_calls (xs : List S43) (ad : Addr) (c : Nat) (w : World) (hr : Kd.C k43 w (some ad) xs.length xs) (hn : 0 < xs.length) (hb : xs.length ≤ 1000000) :
    Calls Try.prog 26 #[.slice (some ad) xs.length c] w (Listed xs w) := by
  obtain ⟨ad', e, hcs⟩ := hr.2.2 hn
  cases e
  obtain ⟨cs, h1, h2, h3⟩ := row_cells (by decide) (fun _ _ h => k43.K_one h) hcs xs.length (Nat.le_refl _)
  rw [List.take_length] at h1
  obtain ⟨i0, hi, hzz⟩ := Option.map_eq_some_iff.1 info43
  simp only [Prod.mk.injEq] at hzz
  obtain ⟨hz0, hz1, hz2⟩ := hzz
  have H1 := Aside0.mk h1
  have H2 := Aside0.mk h2
  have H3 := Aside0.mk h3
  have HI := Aside0.mk hi
  have HZ0 := Aside0.mk hz0
  have HZ1 := Aside0.mk hz1
  have HZ2 := Aside0.mk hz2
  clear h1 h2 h3 hi hz0 hz1 hz2 hcs hr
  go_enter Try.func26, Try.ntmps26
  go_wp2_with (at_builtin; go_loud (refine wpList_append_own _ rfl (.const (.slice none 0 0)) (.tmp 3) 41 rfl (w.heap.size + 1) 43 i0 (.agg #[.string ⟨#[]⟩, .bool false, .slice none 0 0]) 3 48 Try.underlying41 HI.out HZ0.out HZ1.out HZ2.out rfl (by decide) (.slice none 0 0) 0 [] rfl (own_nil _ _ _ _) ad xs.length c cs rfl H1.out.1 (fun j u h => pw_cell_below (below_alloc (Below.refl _ _) _) (H2.out j u h)) H3.out (by simp only [maxLen]; omega) (by omega) (by rw [World.size_alloc]; omega) ?_); intro v' w' hown hg hiff; obtain ⟨g, cap, hv, HBK, HB, hown2, c0, c1, c2', f0, f1, f2, hne⟩ := list_pack hn hown hg; clear hown hg hiff; subst hv)
  refine bodyPost_ret (results_cell_row rfl _ _ w.heap.size 43 #[.string ⟨#[]⟩, .bool true, .slice (some ⟨g, 0, none⟩) xs.length cap] (0, 0) _ rfl (blk_put (cs := #[.string ⟨#[]⟩, .bool true, .slice none 0 0]) (blk_put (cs := #[.string ⟨#[]⟩, .bool false, .slice none 0 0]) (blk_put (cs := #[.string ⟨#[]⟩, .bool false, .slice none 0 0]) HBK.out 0 _ rfl) 1 _ rfl) 2 _ rfl) Try.underlying43 rfl (by kernel_rfl)) rfl ?_
  have hnn : some w.heap.size ≠ (Value.slice (some ⟨g, 0, none⟩) xs.length cap).ownBlock := by
    intro e
    have : w.heap.size = g := by simpa [Value.ownBlock] using e
    exact hne.out this.symm
  exact ⟨⟨_, rfl, cs, own_setCell (own_setCell (own_setCell hown2.out (p := ⟨w.heap.size, 0, none⟩) hnn _) (p := ⟨w.heap.size, 1, none⟩) hnn _) (p := ⟨w.heap.size, 2, none⟩) hnn _, H1.out⟩, below_set (below_set (below_set HB.out (Nat.le_refl _)) (Nat.le_refl _)) (Nat.le_refl _)⟩

set_option maxRecDepth 100000 in
set_option maxHeartbeats 2000000 in
theorem list_none (w : World) :
    Calls Try.prog 26 #[.slice none 0 0] w fun e w' => e = .returned (.agg #[.string ⟨#[]⟩, .bool true, .slice none 0 0]) ∧ Below w.heap.size w w' := by
  obtain ⟨i0, hi, hzz⟩ := Option.map_eq_some_iff.1 info43
  have HI := Aside0.mk hi
  clear hi hzz
  have hbk := blk_new w (.cells #[.string ⟨#[]⟩, .bool false, .slice none 0 0] 43)
  go_enter Try.func26, Try.ntmps26
  go_wp2_with (at_builtin; go_loud (refine wpList_append_own_none rfl (.const (.slice none 0 0)) (.tmp 3) 41 rfl w.heap.size 43 i0 3 Try.underlying41 HI.out (.slice none 0 0) 0 [] rfl (own_nil _ _ _ _) rfl ?_))
  refine bodyPost_ret (results_cell_row rfl _ _ w.heap.size 43 #[.string ⟨#[]⟩, .bool true, .slice none 0 0] (0, 0) _ rfl (blk_new w _) Try.underlying43 rfl (by kernel_rfl)) rfl ?_
  exact ⟨rfl, below_alloc (Below.refl _ _) _⟩

/-! the document's example -/
def tA : S43 := ⟨⟨#[97]⟩, false, []⟩
def tE : S43 := ⟨⟨#[]⟩, false, []⟩
def tL : S43 := ⟨⟨#[]⟩, true, []⟩
def tX : S43 := ⟨⟨#[]⟩, true, [tA, tE, tL]⟩
theorem tX_shw : shw tX = [40, 54, 49, 32, 45, 32, 40, 41, 41] := by
  rfl
theorem tX_may : may tX = true := by
  rfl
theorem C_nil (w : World) (A : Option Addr) : Kd.C k43 w A 0 [] := ⟨rfl, by omega, fun h => by omega⟩
theorem C_three (w : World) : Kd.C k43 (w.alloc (.cells #[.string ⟨#[97]⟩, .bool false, .slice none 0 0, .string ⟨#[]⟩, .bool false, .slice none 0 0, .string ⟨#[]⟩, .bool true, .slice none 0 0] 43)) (some ⟨w.heap.size, 0, none⟩) 3 [tA, tE, tL] := by
  refine ⟨rfl, by omega, fun _ => ⟨_, rfl, fun j p hj => ?_⟩⟩
  have hb := blk_new w (.cells #[.string ⟨#[97]⟩, .bool false, .slice none 0 0, .string ⟨#[]⟩, .bool false, .slice none 0 0, .string ⟨#[]⟩, .bool true, .slice none 0 0] 43)
  have hc := fun i => blk_cell hb i
  match j, hj with
  | 0, hj =>
    cases hj
    refine ⟨_, rfl, k43_mk _ tA (A2 := none) (c2 := 0) (Nat.le_refl _) (C_nil _ _), fun i u hu => ?_⟩
    match i, hu with
    | 0, hu => cases hu; exact hc 0
    | 1, hu => cases hu; exact hc 1
    | 2, hu => cases hu; exact hc 2
    | n + 3, hu => simp at hu
  | 1, hj =>
    cases hj
    refine ⟨_, rfl, k43_mk _ tE (A2 := none) (c2 := 0) (Nat.le_refl _) (C_nil _ _), fun i u hu => ?_⟩
    match i, hu with
    | 0, hu => cases hu; exact hc 3
    | 1, hu => cases hu; exact hc 4
    | 2, hu => cases hu; exact hc 5
    | n + 3, hu => simp at hu
  | 2, hj =>
    cases hj
    refine ⟨_, rfl, k43_mk _ tL (A2 := none) (c2 := 0) (Nat.le_refl _) (C_nil _ _), fun i u hu => ?_⟩
    match i, hu with
    | 0, hu => cases hu; exact hc 6
    | 1, hu => cases hu; exact hc 7
    | 2, hu => cases hu; exact hc 8
    | n + 3, hu => simp at hu
  | n + 3, hj => simp at hj

set_option maxRecDepth 100000 in
set_option maxHeartbeats 2000000 in
theorem text_calls (s : ByteArray) (w : World) :
    Calls Try.prog 36 #[.string s] w fun e w' => e = .returned (.agg #[.string s, .bool false, .slice none 0 0]) ∧ Below w.heap.size w w' := by
  go_enter Try.func36, Try.ntmps36
  go_wp2_with fail
  refine bodyPost_ret (results_cell_row rfl _ _ w.heap.size 43 #[.string s, .bool false, .slice none 0 0] (0, 0) _ rfl (blk_new w _) Try.underlying43 rfl (by kernel_rfl)) rfl ?_
  exact ⟨rfl, below_alloc (Below.refl _ _) _⟩

set_option maxRecDepth 100000 in
set_option maxHeartbeats 2000000 in
theorem alive (w : World) : Calls Try.prog 21 #[] w fun e w' => e = .returned (.bool true) ∧ Below w.heap.size w w' := by
  have HB := Aside0.mk (Below.refl w.heap.size w)
  go_enter Try.func21, Try.ntmps21
  go_wp2_with fail
  refine (text_calls _ _).mono ?_
  rintro e w1 ⟨rfl, hb⟩
  have HB1 := Aside0.mk (below_step HB.out hb)
  clear hb HB
  go_wp2_with fail
  refine (text_calls _ _).mono ?_
  rintro e w2 ⟨rfl, hb⟩
  have HB2 := Aside0.mk (below_step HB1.out hb)
  clear hb HB1
  go_wp2_with fail
  refine (list_none _).mono ?_
  rintro e w3 ⟨rfl, hb⟩
  have HB3 := Aside0.mk (below_step HB2.out hb)
  clear hb HB2
  have HC := Aside0.mk (C_three w3)
  go_wp2_with fail
  refine (list_calls [tA, tE, tL] _ 3 _ HC.out (by simp) (by simp)).mono ?_
  rintro e w4 ⟨⟨v, rfl, ho⟩, hb⟩
  have HB4 := Aside0.mk (below_step (below_alloc HB3.out _) hb)
  obtain ⟨A, c, rfl, hl, hr⟩ := OwnRow.reads ho
  have HR : Aside0 (Kd.C k43 w4 A 3 [tA, tE, tL]) := ⟨hr.imp_ (Below.refl _ _) (fun _ _ hp => k43.K_below hb hp)⟩
  have HL := Aside0.mk hl
  clear hb hl hr ho HC HB3
  have HS : Aside0 (Calls Try.prog 27 #[.agg #[.string ⟨#[]⟩, .bool true, .slice A 3 c]] w4 fun e w' => e = .returned (.tuple #[.string ⟨#[40, 54, 49, 32, 45, 32, 40, 41, 41]⟩, .int .i64 0]) ∧ Below w4.heap.size w4 w') := by
    have := Show_calls tX A c w4 HR.out HL.out (by rw [tX_shw]; decide)
    rw [tX_may, tX_shw, if_pos rfl] at this
    exact ⟨this⟩
  clear HR HL
  go_wp2_with fail
  refine HS.out.mono ?_
  rintro e w5 ⟨rfl, hb⟩
  have HB5 := Aside0.mk (below_step HB4.out hb)
  clear hb HB4 HS
  go_wp2_with fail
  go_ret
  exact ⟨rfl, HB5.out⟩
end Go.Proofs.Ytkdkdjhdoplicaa.It
