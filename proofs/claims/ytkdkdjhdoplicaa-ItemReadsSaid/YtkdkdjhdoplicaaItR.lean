/- Read and Copy of package item. -/
import Derived.Test.YtkdkdjhdoplicaaItL
import Derived.Test.YtkdkdjhdoplicaaItH2
namespace Go.Proofs.Ytkdkdjhdoplicaa.It
open Go.RowKit Go.Proofs.YtkdkdjhdoplicaaW.PrintWords Go.Proofs.YtkdkdjhdoplicaaW.PrintLast Go.Proofs.YtkdkdjhdoplicaaW.PrintMore Go.Proofs.Ytkdkdjhdoplicaa.Md

/-- an item and a number told, the item as the tree y reads -/
structure Told (y : S43) (c : Int) (w : World) (e : Ending) (w' : World) : Prop where
  ret : ∃ A n, e = .returned (.tuple #[.agg #[.string y.f0, .bool y.f1, .slice A y.f2.length n], .int .i64 c]) ∧ Kd.C k43 w' A y.f2.length y.f2 ∧ y.f2.length ≤ n
  below : Below w.heap.size w w'

theorem item_call (k : Nat) (s : ByteArray) (w : World) (r1 : ByteArray) (r2 : Bool) (r3 : List S43) (r4 : ByteArray) (r5 : Int) (r6 : Bool) (h : item_reader_item.f k s 0 false 1 = some (r1, r2, r3, r4, r5, r6)) :
    Calls Try.prog 46 #[.pointer (some ⟨w.heap.size + 1, 0, none⟩), .int .i64 1] ((w.alloc (.cells #[.string ⟨#[]⟩, .bool false, .slice none 0 0] 43)).alloc (.cells #[.string s, .int .i64 0, .bool false] 70)) fun e w' =>
      ∃ A c, e = .returned (.agg #[.string r1, .bool r2, .slice A r3.length c]) ∧ Aside0 (Kd.R k43 43 w' (w.heap.size + 2) (fun k => k ≠ w.heap.size) (.slice A r3.length c) r3) ∧ Aside0 (Below w.heap.size w w') ∧ Aside0 (w'.heap[w.heap.size]? = some (.cells #[.string ⟨#[]⟩, .bool false, .slice none 0 0] 43 (0, 0))) ∧
        w'.cell? ⟨w.heap.size + 1, 0, none⟩ = some (.string r4) ∧ w'.cell? ⟨w.heap.size + 1, 2, none⟩ = some (.bool r6) ∧ w.heap.size < w'.heap.size ∧ w.heap.size + 1 < w'.heap.size := by
  have hb0 : Below w.heap.size w (w.alloc (.cells #[.string ⟨#[]⟩, .bool false, .slice none 0 0] 43)) := below_alloc (Below.refl _ _) _
  have hI := IsS70.new w (w.alloc (.cells #[.string ⟨#[]⟩, .bool false, .slice none 0 0] 43)) s 0 false hb0
  rw [World.size_alloc] at hI
  refine (item_reader_item.calls k (w.heap.size + 1) s 0 false 1 r1 r2 r3 r4 r5 r6 w _ hI (below_alloc hb0 _) h).mono ?_
  rintro e w' ⟨v, rfl, hR, hI', hB', hK⟩
  obtain ⟨A, c, rfl, hl, hC⟩ := Kd.R_reads hR
  have hlt := blk_lt hI'.1
  have hR2 : Kd.R k43 43 w' (w.heap.size + 2) (fun k => k ≠ w.heap.size) (.slice A r3.length c) r3 := by
    have := Kd.R_mono (ok' := fun k => k ≠ w.heap.size) (Kd.R_bound hR) (fun k hk => by have := hk.2.1; rw [World.size_alloc, World.size_alloc] at this; omega)
    rw [World.size_alloc, World.size_alloc] at this
    exact this
  refine ⟨A, c, rfl, ⟨hR2⟩, ⟨hB'⟩, ⟨?_⟩, cellS70_0 hI'.1, cellS70_2 hI'.1, by omega, hlt⟩
  exact (hK.2 w.heap.size (by rw [World.size_alloc, World.size_alloc]; omega) (by omega) (by simp)).trans (blk_alloc (blk_new w _) _)

set_option maxRecDepth 100000 in
set_option maxHeartbeats 2000000 in
theorem read_bad (k : Nat) (s : ByteArray) (w : World) (r1 : ByteArray) (r2 : Bool) (r3 : List S43) (r4 : ByteArray) (r5 : Int) (r6 : Bool) (h : item_reader_item.f k s 0 false 1 = some (r1, r2, r3, r4, r5, r6)) (hb : r6 = true ∨ r4.size ≠ 0) :
    Calls Try.prog 28 #[.string s] w (Told z43 3 w) := by
  have H := Aside0.mk (item_call k s w r1 r2 r3 r4 r5 r6 h)
  have hcs : r6 = true ∨ (r6 = false ∧ r4.size ≠ 0) := by cases r6 <;> simp_all
  clear h hb
  rcases hcs with h6 | ⟨h6, h4⟩
  · subst h6
    go_enter Try.func28, Try.ntmps28
    go_wp2_with fail
    refine H.out.mono ?_
    rintro e w5 ⟨A, c, rfl, hC, HB, HBX, c0, c2, l1, l2⟩
    have b0 : w5.cell? ⟨w.heap.size, 0, none⟩ = some (.string ⟨#[]⟩) := blk_at_cells (i := 0) HBX.out rfl
    have b1 : w5.cell? ⟨w.heap.size, 1, none⟩ = some (.bool false) := blk_at_cells (i := 1) HBX.out rfl
    have b2 : w5.cell? ⟨w.heap.size, 2, none⟩ = some (.slice none 0 0) := blk_at_cells (i := 2) HBX.out rfl
    have f0 := blk_frozen HBX.out 0
    have f1 := blk_frozen HBX.out 1
    have f2 := blk_frozen HBX.out 2
    go_wp2_with fail
    refine bodyPost_ret (results_ct rfl _ _ w.heap.size 43 #[.string ⟨#[]⟩, .bool false, .slice none 0 0] (0, 0) _ rfl (blk_alloc (blk_put (cs := #[.string ⟨#[]⟩, .bool false, .slice none 0 0]) (blk_put (cs := #[.string ⟨#[]⟩, .bool false, .slice none 0 0]) (blk_put (cs := #[.string ⟨#[]⟩, .bool false, .slice none 0 0]) HBX.out 0 _ rfl) 1 _ rfl) 2 _ rfl) _) Try.underlying43 rfl (by kernel_rfl)) rfl ?_
    exact ⟨⟨none, 0, rfl, C_nil _ _, Nat.le_refl _⟩, below_alloc (below_set (below_set (below_set HB.out (Nat.le_refl _)) (Nat.le_refl _)) (Nat.le_refl _)) _⟩
  · have te := toList_ne h4
    have tf : r4.toList.isEmpty = false := by cases e : r4.toList with | nil => exact absurd e te | cons => rfl
    subst h6
    go_enter Try.func28, Try.ntmps28
    go_wp2_with fail
    refine H.out.mono ?_
    rintro e w5 ⟨A, c, rfl, hC, HB, HBX, c0, c2, l1, l2⟩
    have b0 : w5.cell? ⟨w.heap.size, 0, none⟩ = some (.string ⟨#[]⟩) := blk_at_cells (i := 0) HBX.out rfl
    have b1 : w5.cell? ⟨w.heap.size, 1, none⟩ = some (.bool false) := blk_at_cells (i := 1) HBX.out rfl
    have b2 : w5.cell? ⟨w.heap.size, 2, none⟩ = some (.slice none 0 0) := blk_at_cells (i := 2) HBX.out rfl
    have f0 := blk_frozen HBX.out 0
    have f1 := blk_frozen HBX.out 1
    have f2 := blk_frozen HBX.out 2
    go_wp2_with fail
    refine bodyPost_ret (results_ct rfl _ _ w.heap.size 43 #[.string ⟨#[]⟩, .bool false, .slice none 0 0] (0, 0) _ rfl (blk_alloc (blk_put (cs := #[.string ⟨#[]⟩, .bool false, .slice none 0 0]) (blk_put (cs := #[.string ⟨#[]⟩, .bool false, .slice none 0 0]) (blk_put (cs := #[.string ⟨#[]⟩, .bool false, .slice none 0 0]) HBX.out 0 _ rfl) 1 _ rfl) 2 _ rfl) _) Try.underlying43 rfl (by kernel_rfl)) rfl ?_
    exact ⟨⟨none, 0, rfl, C_nil _ _, Nat.le_refl _⟩, below_alloc (below_set (below_set (below_set HB.out (Nat.le_refl _)) (Nat.le_refl _)) (Nat.le_refl _)) _⟩

set_option maxRecDepth 100000 in
set_option maxHeartbeats 2000000 in
theorem read_good (k : Nat) (s : ByteArray) (w : World) (r1 : ByteArray) (r2 : Bool) (r3 : List S43) (r5 : Int) (h : item_reader_item.f k s 0 false 1 = some (r1, r2, r3, ⟨#[]⟩, r5, false)) :
    Calls Try.prog 28 #[.string s] w (Told ⟨r1, r2, r3⟩ 0 w) := by
  have H := Aside0.mk (item_call k s w r1 r2 r3 ⟨#[]⟩ r5 false h)
  clear h
  go_enter Try.func28, Try.ntmps28
  go_wp2_with fail
  refine H.out.mono ?_
  rintro e w5 ⟨A, c, rfl, hC, HB, HBX, c0, c2, l1, l2⟩
  have b0 : w5.cell? ⟨w.heap.size, 0, none⟩ = some (.string ⟨#[]⟩) := blk_at_cells (i := 0) HBX.out rfl
  have b1 : w5.cell? ⟨w.heap.size, 1, none⟩ = some (.bool false) := blk_at_cells (i := 1) HBX.out rfl
  have b2 : w5.cell? ⟨w.heap.size, 2, none⟩ = some (.slice none 0 0) := blk_at_cells (i := 2) HBX.out rfl
  have f0 := blk_frozen HBX.out 0
  have f1 := blk_frozen HBX.out 1
  have f2 := blk_frozen HBX.out 2
  go_wp2_with fail
  refine bodyPost_ret (results_ct rfl _ _ w.heap.size 43 #[.string r1, .bool r2, .slice A r3.length c] (0, 0) _ rfl (blk_alloc (blk_put (cs := #[.string r1, .bool r2, .slice none 0 0]) (blk_put (cs := #[.string r1, .bool false, .slice none 0 0]) (blk_put (cs := #[.string ⟨#[]⟩, .bool false, .slice none 0 0]) HBX.out 0 _ rfl) 1 _ rfl) 2 _ rfl) _) Try.underlying43 rfl (by kernel_rfl)) rfl ?_
  have hR := Kd.R_alloc (Kd.R_far (p := ⟨w.heap.size, 2, none⟩) (Kd.R_far (p := ⟨w.heap.size, 1, none⟩) (Kd.R_far (p := ⟨w.heap.size, 0, none⟩) hC.out (fun _ h => h) (.string r1)) (fun _ h => h) (.bool r2)) (fun _ h => h) (.slice A r3.length c)) (.cells #[.string r1, .bool r2, .slice A r3.length c] 43)
  obtain ⟨A', c', e', hl', hC'⟩ := Kd.R_reads hR
  cases e'
  exact ⟨⟨_, _, rfl, hC', hl'⟩, below_alloc (below_set (below_set (below_set HB.out (Nat.le_refl _)) (Nat.le_refl _)) (Nat.le_refl _)) _⟩

/-- a copy told: it reads as x, its rows are its own -/
structure Copied (x : S43) (w : World) (e : Ending) (w' : World) : Prop where
  ret : ∃ v, e = .returned (.agg #[.string x.f0, .bool x.f1, v]) ∧ Kd.R k43 43 w' w.heap.size (fun _ => True) v x.f2
  below : Below w.heap.size w w'

set_option maxRecDepth 100000 in
set_option maxHeartbeats 2000000 in
theorem copy_calls (k : Nat) (x : S43) (A : Option Addr) (c2 : Nat) (w : World) (hr : Kd.C k43 w A x.f2.length x.f2) (hl : x.f2.length ≤ c2) (hm : may x = true) (h : item_copied.f k x.f0 x.f1 x.f2 = some (x.f0, x.f1, x.f2)) :
    Calls Try.prog 25 #[.agg #[.string x.f0, .bool x.f1, .slice A x.f2.length c2]] w (Copied x w) := by
  have HM : Aside0 (∀ W, Below w.heap.size w W → Calls Try.prog 42 #[.agg #[.string x.f0, .bool x.f1, .slice A x.f2.length c2]] W fun e w' => e = .returned (.bool true) ∧ Below W.heap.size W w') :=
    ⟨fun W hW => by have := may_calls x A c2 W (Kd.C_below hr hW) hl; rwa [hm] at this⟩
  have HC : Aside0 (∀ W, Below w.heap.size w W → Calls Try.prog 43 #[.agg #[.string x.f0, .bool x.f1, .slice A x.f2.length c2]] W fun e w' => ∃ v, e = .returned (.agg #[.string x.f0, .bool x.f1, v]) ∧ Kd.R k43 43 w' W.heap.size (fun _ => True) v x.f2 ∧ Below W.heap.size W w') :=
    ⟨fun W hW => item_copied.calls k _ _ _ _ _ _ _ _ W (Kd.C_below hr hW) hl h⟩
  clear hr hl hm h
  have hb0 : Below w.heap.size w ((w.alloc (.cells #[.string x.f0, .bool x.f1, .slice A x.f2.length c2] 43)).alloc (.cells #[.string ⟨#[]⟩, .bool false, .slice none 0 0] 43)) := below_alloc (below_alloc (Below.refl _ _) _) _
  have hk0 : ((w.alloc (.cells #[.string x.f0, .bool x.f1, .slice A x.f2.length c2] 43)).alloc (.cells #[.string ⟨#[]⟩, .bool false, .slice none 0 0] 43)).heap[w.heap.size]? = some (.cells #[.string x.f0, .bool x.f1, .slice A x.f2.length c2] 43 (0, 0)) := blk_alloc (blk_new w _) _
  have hk1 : ((w.alloc (.cells #[.string x.f0, .bool x.f1, .slice A x.f2.length c2] 43)).alloc (.cells #[.string ⟨#[]⟩, .bool false, .slice none 0 0] 43)).heap[w.heap.size + 1]? = some (.cells #[.string ⟨#[]⟩, .bool false, .slice none 0 0] 43 (0, 0)) := by
    have := blk_new (w.alloc (.cells #[.string x.f0, .bool x.f1, .slice A x.f2.length c2] 43)) (.cells #[.string ⟨#[]⟩, .bool false, .slice none 0 0] 43)
    rwa [World.size_alloc] at this
  have HB0 := Aside0.mk hb0
  have HK0 := Aside0.mk hk0
  have HK1 := Aside0.mk hk1
  clear hb0 hk0 hk1
  go_enter Try.func25, Try.ntmps25
  go_wp2_with fail
  refine (HM.out _ HB0.out).mono ?_
  rintro e w5 ⟨rfl, hb⟩
  have HB1 := Aside0.mk (below_step HB0.out hb)
  have HK0' := Aside0.mk (blk_below HK0.out hb)
  have HK1' := Aside0.mk (blk_below HK1.out hb)
  have b0 : w5.cell? ⟨w.heap.size, 0, none⟩ = some (.string x.f0) := blk_at_cells (i := 0) HK0'.out rfl
  have b1 : w5.cell? ⟨w.heap.size, 1, none⟩ = some (.bool x.f1) := blk_at_cells (i := 1) HK0'.out rfl
  have b2 : w5.cell? ⟨w.heap.size, 2, none⟩ = some (.slice A x.f2.length c2) := blk_at_cells (i := 2) HK0'.out rfl
  clear hb
  go_wp2_with fail
  refine (HC.out _ HB1.out).mono ?_
  rintro e w6 ⟨v, rfl, hR, hb⟩
  have HB2 := Aside0.mk (below_step HB1.out hb)
  have HK2 := Aside0.mk (blk_below HK1'.out hb)
  have hlt := blk_lt HK1'.out
  have HR : Aside0 (Kd.R k43 43 w6 w.heap.size (fun k => k ≠ w.heap.size + 1) v x.f2) := ⟨Kd.R_lower (Kd.R_mono (Kd.R_bound hR) (fun k hk => by have := hk.2.1; omega)) HB1.out.size⟩
  obtain ⟨A5, c5, hv⟩ := Kd.R_slice hR
  subst hv
  have c0 : w6.cell? ⟨w.heap.size + 1, 0, none⟩ = some (.string ⟨#[]⟩) := blk_at_cells (i := 0) HK2.out rfl
  have c1 : w6.cell? ⟨w.heap.size + 1, 1, none⟩ = some (.bool false) := blk_at_cells (i := 1) HK2.out rfl
  have c2 : w6.cell? ⟨w.heap.size + 1, 2, none⟩ = some (.slice none 0 0) := blk_at_cells (i := 2) HK2.out rfl
  have f0 := blk_frozen HK2.out 0
  have f1 := blk_frozen HK2.out 1
  have f2 := blk_frozen HK2.out 2
  clear hb hR b0 b1 b2 hlt
  go_wp2_with fail
  refine bodyPost_ret (results_cell_row rfl _ _ (w.heap.size + 1) 43 #[.string x.f0, .bool x.f1, .slice A5 x.f2.length c5] (0, 0) _ rfl (blk_put (cs := #[.string x.f0, .bool x.f1, .slice none 0 0]) (blk_put (cs := #[.string x.f0, .bool false, .slice none 0 0]) (blk_put (cs := #[.string ⟨#[]⟩, .bool false, .slice none 0 0]) HK2.out 0 _ rfl) 1 _ rfl) 2 _ rfl) Try.underlying43 rfl (by kernel_rfl)) rfl ?_
  exact ⟨⟨_, rfl, Kd.R_mono (Kd.R_far (p := ⟨w.heap.size + 1, 2, none⟩) (Kd.R_far (p := ⟨w.heap.size + 1, 1, none⟩) (Kd.R_far (p := ⟨w.heap.size + 1, 0, none⟩) HR.out (fun _ h => h) (.string x.f0)) (fun _ h => h) (.bool x.f1)) (fun _ h => h) (.slice A5 x.f2.length c5)) (fun _ _ => trivial)⟩, below_set (below_set (below_set HB2.out (Nat.le_succ _)) (Nat.le_succ _)) (Nat.le_succ _)⟩
end Go.Proofs.Ytkdkdjhdoplicaa.It
