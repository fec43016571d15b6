/- The law ItemReads, walked. -/
import Derived.Test.YtkdkdjhdoplicaaItF
import Derived.Test.YtkdkdjhdoplicaaItR
import Derived.Test.YtkdkdjhdoplicaaItL
import Derived.Test.YtkdkdjhdoplicaaItH6
namespace Go.Proofs.Ytkdkdjhdoplicaa.It
open Go.RowKit Go.Proofs.YtkdkdjhdoplicaaW.PrintWords Go.Proofs.YtkdkdjhdoplicaaW.PrintLast Go.Proofs.YtkdkdjhdoplicaaW.PrintMore Go.Proofs.Ytkdkdjhdoplicaa.Md

theorem ref_told (k : Nat) (s : ByteArray) (y : S43) (c : Int) (w : World) (h : hatchwayref08_Read.f k s = some (y.f0, y.f1, y.f2, c)) : Calls Try.prog 30 #[.string s] w (Told y c w) := by
  refine (hatchwayref08_Read.calls k s _ _ _ _ w h).mono ?_
  rintro e w' ⟨v, rfl, hR, hB⟩
  obtain ⟨A, n, rfl, hl, hC⟩ := Kd.R_reads hR
  exact ⟨⟨A, n, rfl, hC, hl⟩, hB⟩
theorem same_own {x : S43} (hf : Fit x) : ∃ k, hatchwayref08_Same.f k x.f0 x.f1 x.f2 x.f0 x.f1 x.f2 = some true := (same_ev (cnt x + 1) x (by omega) hf).rounds
/-- what Same answers of two readings of one tree -/
def Twins (x : S43) (w : World) : Prop := ∀ W A c A' c', Below w.heap.size w W → Kd.C k43 W A x.f2.length x.f2 → x.f2.length ≤ c → Kd.C k43 W A' x.f2.length x.f2 → x.f2.length ≤ c' → Calls Try.prog 29 #[.agg #[.string x.f0, .bool x.f1, .slice A x.f2.length c], .agg #[.string x.f0, .bool x.f1, .slice A' x.f2.length c']] W fun e w' => e = .returned (.bool true) ∧ Below W.heap.size W w'
theorem twins {x : S43} (hf : Fit x) (w : World) : Twins x w := by
  obtain ⟨k, hk⟩ := same_own hf
  exact fun W A c A' c' _ hC hl hC' hl' => hatchwayref08_Same.calls k _ _ _ _ _ _ _ _ _ _ _ W hC hl hC' hl' hk
def Shows7 (x : S43) (s : ByteArray) (w : World) : Prop := ∀ W A c, Below w.heap.size w W → Kd.C k43 W A x.f2.length x.f2 → x.f2.length ≤ c → Calls Try.prog 27 #[.agg #[.string x.f0, .bool x.f1, .slice A x.f2.length c]] W fun e w' => e = .returned (.tuple #[.string s, .int .i64 0]) ∧ Below W.heap.size W w'
theorem shown7 {x : S43} (hm : may x = true) (hl : (shw x).length ≤ 4000) (w : World) : Shows7 x (bs (shw x)) w := by
  intro W A c _ hC hc
  have := Show_calls x A c W hC hc (by omega)
  rwa [if_pos hm] at this

set_option maxRecDepth 100000 in
set_option maxHeartbeats 2000000 in
theorem reads_long (s : ByteArray) (hs : 4000 < s.size) (w : World) :
    Calls Try.prog 7 #[.string s] w fun e w' => e = .returned (.bool true) ∧ Below w.heap.size w w' := by
  have HL := Aside0.mk hs
  clear hs
  go_enter Try.func7, Try.ntmps7
  go_wp2_with fail
  refine (alive _).mono ?_
  rintro e w1 ⟨rfl, hb⟩
  have HB1 := Aside0.mk hb
  clear hb
  go_wp2_with fail
  · go_ret
    exact ⟨rfl, HB1.out⟩
  · have := HL.out; omega

set_option maxRecDepth 100000 in
set_option maxHeartbeats 2000000 in
theorem reads_good (s : ByteArray) (hs : s.size ≤ 4000) (x : S43) (w : World) (h1 : ∀ W, Calls Try.prog 28 #[.string s] W (Told x 0 W)) (h2 : ∀ W, Calls Try.prog 30 #[.string s] W (Told x 0 W)) (h3 : Twins x w) (h4 : Shows7 x s w) :
    Calls Try.prog 7 #[.string s] w fun e w' => e = .returned (.bool true) ∧ Below w.heap.size w w' := by
  have HL := Aside0.mk hs
  have H1 := Aside0.mk h1
  have H2 := Aside0.mk h2
  have H3 := Aside0.mk h3
  have H4 := Aside0.mk h4
  clear hs h1 h2 h3 h4
  go_enter Try.func7, Try.ntmps7
  go_wp2_with fail
  refine (alive _).mono ?_
  rintro e w1 ⟨rfl, hb⟩
  have HB1 := Aside0.mk hb
  clear hb
  go_wp2_with fail
  · have := HL.out; omega
  refine (H1.out _).mono ?_
  rintro e w2 ⟨⟨A, c, rfl, hC, hl⟩, hb⟩
  have HB2 := Aside0.mk (below_step HB1.out hb)
  have HC2 := Aside0.mk hC
  have HL2 := Aside0.mk hl
  clear hb hC hl
  have HB3 : Aside0 (Below w.heap.size w (w2.alloc (.cells #[.string x.f0, .bool x.f1, .slice A x.f2.length c] 43))) := ⟨below_alloc HB2.out _⟩
  have HY3 := Aside0.mk (blk_new w2 (.cells #[.string x.f0, .bool x.f1, .slice A x.f2.length c] 43))
  have HC3 := Aside0.mk (Kd.C_below HC2.out (below_alloc (Below.refl _ _) (.cells #[.string x.f0, .bool x.f1, .slice A x.f2.length c] 43)))
  go_wp2_with fail
  refine (H2.out _).mono ?_
  rintro e w4 ⟨⟨A', c', rfl, hC, hl⟩, hb⟩
  have HB4 := Aside0.mk (below_step HB3.out hb)
  have HY4 := Aside0.mk (blk_below HY3.out hb)
  have HC4 := Aside0.mk (Kd.C_below HC3.out hb)
  have HD4 := Aside0.mk hC
  have HM4 := Aside0.mk hl
  have hlt4 := blk_lt HY4.out
  clear hb hC hl
  have y0 : w4.cell? ⟨w2.heap.size, 0, none⟩ = some (.string x.f0) := blk_at_cells (i := 0) HY4.out rfl
  have y1 : w4.cell? ⟨w2.heap.size, 1, none⟩ = some (.bool x.f1) := blk_at_cells (i := 1) HY4.out rfl
  have y2 : w4.cell? ⟨w2.heap.size, 2, none⟩ = some (.slice A x.f2.length c) := blk_at_cells (i := 2) HY4.out rfl
  have HB5 : Aside0 (Below w.heap.size w (w4.alloc (.cells #[.string x.f0, .bool x.f1, .slice A' x.f2.length c'] 43))) := ⟨below_alloc HB4.out _⟩
  have HY5 := Aside0.mk (blk_alloc HY4.out (.cells #[.string x.f0, .bool x.f1, .slice A' x.f2.length c'] 43))
  have HC5 := Aside0.mk (Kd.C_below HC4.out (below_alloc (Below.refl _ _) (.cells #[.string x.f0, .bool x.f1, .slice A' x.f2.length c'] 43)))
  have HD5 := Aside0.mk (Kd.C_below HD4.out (below_alloc (Below.refl _ _) (.cells #[.string x.f0, .bool x.f1, .slice A' x.f2.length c'] 43)))
  go_wp2_with fail
  refine (H3.out _ _ _ _ _ HB5.out HC5.out HL2.out HD5.out HM4.out).mono ?_
  rintro e w6 ⟨rfl, hb⟩
  have HB6 := Aside0.mk (below_step HB5.out hb)
  have HY6 := Aside0.mk (blk_below HY5.out hb)
  have HC6 := Aside0.mk (Kd.C_below HC5.out hb)
  clear hb y0 y1 y2 hlt4
  have y0 : w6.cell? ⟨w2.heap.size, 0, none⟩ = some (.string x.f0) := blk_at_cells (i := 0) HY6.out rfl
  have y1 : w6.cell? ⟨w2.heap.size, 1, none⟩ = some (.bool x.f1) := blk_at_cells (i := 1) HY6.out rfl
  have y2 : w6.cell? ⟨w2.heap.size, 2, none⟩ = some (.slice A x.f2.length c) := blk_at_cells (i := 2) HY6.out rfl
  go_wp2_with fail
  refine (H4.out _ _ _ HB6.out HC6.out HL2.out).mono ?_
  rintro e w7 ⟨rfl, hb⟩
  have HB7 := Aside0.mk (below_step HB6.out hb)
  clear hb y0 y1 y2
  go_wp2_with fail
  go_ret
  exact ⟨rfl, HB7.out⟩

set_option maxRecDepth 100000 in
set_option maxHeartbeats 2000000 in
theorem reads_bad (s : ByteArray) (hs : s.size ≤ 4000) (w : World) (h1 : ∀ W, Calls Try.prog 28 #[.string s] W (Told z43 3 W)) (h2 : ∀ W, Calls Try.prog 30 #[.string s] W (Told z43 3 W)) (h3 : Twins z43 w) :
    Calls Try.prog 7 #[.string s] w fun e w' => e = .returned (.bool true) ∧ Below w.heap.size w w' := by
  have HL := Aside0.mk hs
  obtain ⟨x, hx⟩ : ∃ x, z43 = x := ⟨_, rfl⟩
  rw [hx] at h1 h2 h3
  have H1 := Aside0.mk h1
  have H2 := Aside0.mk h2
  have H3 := Aside0.mk h3
  clear hs h1 h2 h3 hx
  go_enter Try.func7, Try.ntmps7
  go_wp2_with fail
  refine (alive _).mono ?_
  rintro e w1 ⟨rfl, hb⟩
  have HB1 := Aside0.mk hb
  clear hb
  go_wp2_with fail
  · have := HL.out; omega
  refine (H1.out _).mono ?_
  rintro e w2 ⟨⟨A, c, rfl, hC, hl⟩, hb⟩
  have HB2 := Aside0.mk (below_step HB1.out hb)
  have HC2 := Aside0.mk hC
  have HL2 := Aside0.mk hl
  clear hb hC hl
  have HB3 : Aside0 (Below w.heap.size w (w2.alloc (.cells #[.string x.f0, .bool x.f1, .slice A x.f2.length c] 43))) := ⟨below_alloc HB2.out _⟩
  have HY3 := Aside0.mk (blk_new w2 (.cells #[.string x.f0, .bool x.f1, .slice A x.f2.length c] 43))
  have HC3 := Aside0.mk (Kd.C_below HC2.out (below_alloc (Below.refl _ _) (.cells #[.string x.f0, .bool x.f1, .slice A x.f2.length c] 43)))
  go_wp2_with fail
  refine (H2.out _).mono ?_
  rintro e w4 ⟨⟨A', c', rfl, hC, hl⟩, hb⟩
  have HB4 := Aside0.mk (below_step HB3.out hb)
  have HY4 := Aside0.mk (blk_below HY3.out hb)
  have HC4 := Aside0.mk (Kd.C_below HC3.out hb)
  have HD4 := Aside0.mk hC
  have HM4 := Aside0.mk hl
  have hlt4 := blk_lt HY4.out
  clear hb hC hl
  have y0 : w4.cell? ⟨w2.heap.size, 0, none⟩ = some (.string x.f0) := blk_at_cells (i := 0) HY4.out rfl
  have y1 : w4.cell? ⟨w2.heap.size, 1, none⟩ = some (.bool x.f1) := blk_at_cells (i := 1) HY4.out rfl
  have y2 : w4.cell? ⟨w2.heap.size, 2, none⟩ = some (.slice A x.f2.length c) := blk_at_cells (i := 2) HY4.out rfl
  have HB5 : Aside0 (Below w.heap.size w (w4.alloc (.cells #[.string x.f0, .bool x.f1, .slice A' x.f2.length c'] 43))) := ⟨below_alloc HB4.out _⟩
  have HC5 := Aside0.mk (Kd.C_below HC4.out (below_alloc (Below.refl _ _) (.cells #[.string x.f0, .bool x.f1, .slice A' x.f2.length c'] 43)))
  have HD5 := Aside0.mk (Kd.C_below HD4.out (below_alloc (Below.refl _ _) (.cells #[.string x.f0, .bool x.f1, .slice A' x.f2.length c'] 43)))
  go_wp2_with fail
  refine (H3.out _ _ _ _ _ HB5.out HC5.out HL2.out HD5.out HM4.out).mono ?_
  rintro e w6 ⟨rfl, hb⟩
  have HB6 := Aside0.mk (below_step HB5.out hb)
  clear hb y0 y1 y2 hlt4
  go_wp2_with fail
  go_ret
  exact ⟨rfl, HB6.out⟩

theorem reads (s : ByteArray) (_ : s.size ≤ 140737488351232) (w : World) : Calls Try.prog 7 #[.string s] w fun e w' => e = .returned (.bool true) ∧ Below w.heap.size w w' := by
  rcases Nat.lt_or_ge 4000 s.size with h | h
  · exact reads_long s h w
  rcases both s h with ⟨x, k, k', r5, hm, hx, hl, hf, h1, h2⟩ | ⟨k, k', r1, r2, r3, r4, r5, r6, h1, h6, h2⟩
  · refine reads_good s h x w (fun W => ?_) (fun W => ref_told k' s x 0 W h2) (twins hf w) ?_
    · have := read_good k s W x.f0 x.f1 x.f2 r5 h1
      rwa [t43] at this
    · rw [hx]
      exact shown7 hm hl w
  · exact reads_bad s h w (fun W => read_bad k s W r1 r2 r3 r4 r5 r6 h1 h6) (fun W => ref_told k' s z43 3 W h2) (twins (by simp [z43, Fit, Fits]) w)
end Go.Proofs.Ytkdkdjhdoplicaa.It
