/- walk's closure, walk and May of package item. -/
import Derived.Test.YtkdkdjhdoplicaaItT
import Derived.Test.YtkdkdjhdoplicaaMod
import Derived.Laws.EntriesVeiled
namespace Go.Proofs.Ytkdkdjhdoplicaa.It
open Go.RowKit Go.Proofs.YtkdkdjhdoplicaaW.PrintWords Go.Proofs.YtkdkdjhdoplicaaW.PrintLast Go.Proofs.YtkdkdjhdoplicaaW.PrintMore Go.Proofs.Ytkdkdjhdoplicaa.Md
attribute [local go_sem] max2_int min2_int max_two min_two

abbrev Ptr (g : Nat) : Value := .pointer (some ⟨g, 0, none⟩)
abbrev clo (gc gd ga : Nat) : Value := .func (.func 54) #[] #[Ptr gc, Ptr gd, Ptr ga]
structure Wk (w0 w : World) (gc gd ga : Nat) (c m : Int) : Prop where
  bc : w.heap[gc]? = some (.cells #[.int .i64 c] 3 (0, 0))
  bd : w.heap[gd]? = some (.cells #[.int .i64 m] 3 (0, 0))
  ba : w.heap[ga]? = some (.cells #[clo gc gd ga] 83 (0, 0))
  below : Below w0.heap.size w0 w
  hc : w0.heap.size ≤ gc
  hd : w0.heap.size ≤ gd
  ha : w0.heap.size ≤ ga
  cd : gc ≠ gd
  ca : gc ≠ ga
  da : gd ≠ ga
structure Wkd (w0 : World) (gc gd ga : Nat) (r : Nat × Bool) (w : World) (e : Ending) (w' : World) : Prop where
  ret : e = .returned (.bool r.2)
  wk : ∃ m, 0 ≤ m ∧ m ≤ 17 ∧ Wk w0 w' gc gd ga r.1 m
  mod : Mod (fun i => i = gc ∨ i = gd) w w'
theorem Wk.c0 {w0 w : World} {gc gd ga : Nat} {c m : Int} (h : Wk w0 w gc gd ga c m) : w.cell? ⟨gc, 0, none⟩ = some (.int .i64 c) := blk_at_cells h.bc rfl
theorem Wk.c1 {w0 w : World} {gc gd ga : Nat} {c m : Int} (h : Wk w0 w gc gd ga c m) : w.cell? ⟨gd, 0, none⟩ = some (.int .i64 m) := blk_at_cells h.bd rfl
theorem Wk.c2 {w0 w : World} {gc gd ga : Nat} {c m : Int} (h : Wk w0 w gc gd ga c m) : w.cell? ⟨ga, 0, none⟩ = some (clo gc gd ga) := blk_at_cells h.ba rfl

theorem Wk.alloc {w0 w : World} {gc gd ga : Nat} {c m : Int} (h : Wk w0 w gc gd ga c m) (o : Obj) : Wk w0 (w.alloc o) gc gd ga c m :=
  ⟨blk_alloc h.bc _, blk_alloc h.bd _, blk_alloc h.ba _, below_alloc h.below _, h.hc, h.hd, h.ha, h.cd, h.ca, h.da⟩
theorem toList_ne {t : ByteArray} (h : ¬ t.size = 0) : ¬ t.toList = [] := by
  rw [Go.Lib.toList_data]
  intro e
  apply h
  show t.data.size = 0
  rw [← Array.length_toList, e]
  rfl
theorem Wk.step {w0 w : World} {gc gd ga : Nat} {c m : Int} (h : Wk w0 w gc gd ga c m) (M : Int) (o : Obj) : Wk w0 (((w.setCell ⟨gc, 0, none⟩ (.int .i64 (c + 1))).setCell ⟨gd, 0, none⟩ (.int .i64 M)).alloc o) gc gd ga (c + 1) M := by
  refine ⟨blk_alloc (blk_far (blk_put h.bc 0 _ rfl) h.cd _) _, blk_alloc (blk_put (blk_far h.bd h.cd.symm _) 0 _ rfl) _, blk_alloc (blk_far (blk_far h.ba h.ca.symm _) h.da.symm _) _, ?_, h.hc, h.hd, h.ha, h.cd, h.ca, h.da⟩
  exact below_alloc (below_set (below_set h.below h.hc) h.hd) _
theorem Wk.stepMod {w0 w : World} {gc gd ga : Nat} {c m : Int} (_h : Wk w0 w gc gd ga c m) (M : Int) (o : Obj) : Mod (fun i => i = gc ∨ i = gd) w (((w.setCell ⟨gc, 0, none⟩ (.int .i64 (c + 1))).setCell ⟨gd, 0, none⟩ (.int .i64 M)).alloc o) :=
  (((Mod.refl _ w).setCell ⟨gc, 0, none⟩ _ (.inl (.inl rfl))).setCell ⟨gd, 0, none⟩ _ (.inl (.inr rfl))).alloc o

set_option maxRecDepth 100000 in
set_option maxHeartbeats 2000000 in
theorem walk_calls (n : Nat) : ∀ (x : S43), cnt x < n → ∀ (A : Option Addr) (c2 d c : Nat) (m : Int) (w0 w : World) (gc gd ga : Nat), Kd.C k43 w0 A x.f2.length x.f2 → x.f2.length ≤ c2 → Wk w0 w gc gd ga c m → d ≤ 17 → c ≤ 1024 → 0 ≤ m → m ≤ 17 →
    Calls Try.prog 54 #[.agg #[.string x.f0, .bool x.f1, .slice A x.f2.length c2], .int .i64 d, Ptr gc, Ptr gd, Ptr ga] w (Wkd w0 gc gd ga (wk x d c) w) := by
  induction n with
  | zero => intro x h; omega
  | succ n ih =>
  rintro ⟨t, b, s⟩ hsz A c2 d c m w0 w gc gd ga hr hl hw hd hc hm0 hm1
  simp only at hr hl
  have HR := Aside0.mk hr
  have HL := Aside0.mk hl
  have c0 := hw.c0
  have c1 := hw.c1
  have c3 := hw.c2
  have f0 := blk_frozen hw.bc 0
  have f1 := blk_frozen hw.bd 0
  have l1 := blk_lt hw.bc
  have l2 := blk_lt hw.bd
  have l3 := blk_lt hw.ba
  have ne1 := hw.cd
  have ne2 := hw.ca
  have ne3 := hw.da
  have HW := Aside0.mk hw
  clear hw hr hl
  have HE : Aside0 (16 < d ∨ 1024 < c + 1 ∨ flat t b s = false → wk ⟨t, b, s⟩ d c = (c + 1, false)) := ⟨fun h => by rw [wk, if_pos h]⟩
  have HF : Aside0 (¬ (16 < d ∨ 1024 < c + 1 ∨ flat t b s = false) → wk ⟨t, b, s⟩ d c = wks s (d + 1) (c + 1)) := ⟨fun h => by rw [wk, if_neg h]⟩
  by_cases h1 : 16 < d
  · have t1 : decide (16 < (d : Int)) = true := decide_eq_true (by omega)
    have HE' := Aside0.mk (HE.out (.inl h1))
    clear HE HF h1
    go_enter Try.func54, Try.ntmps54
    go_wp2_with fail
    all_goals
      go_ret
      refine ⟨by rw [HE'.out]; rfl, ⟨_, ?_, ?_, by rw [HE'.out]; exact HW.out.step _ _⟩, HW.out.stepMod _ _⟩ <;> omega
  have t1 : decide (16 < (d : Int)) = false := decide_eq_false (by omega)
  by_cases h2 : 1024 < c + 1
  · have t2 : decide (1024 < (c : Int) + 1) = true := decide_eq_true (by omega)
    have HE' := Aside0.mk (HE.out (.inr (.inl h2)))
    clear HE HF h2
    go_enter Try.func54, Try.ntmps54
    go_wp2_with fail
    all_goals
      go_ret
      refine ⟨by rw [HE'.out]; rfl, ⟨_, ?_, ?_, by rw [HE'.out]; exact HW.out.step _ _⟩, HW.out.stepMod _ _⟩ <;> omega
  have t2 : decide (1024 < (c : Int) + 1) = false := decide_eq_false (by omega)
  cases b
  · by_cases h3 : s.length = 0
    · obtain rfl := List.eq_nil_of_length_eq_zero h3
      have HE' := Aside0.mk (HF.out (by rintro (h | h | h) <;> first | omega | simp [flat] at h))
      clear HE HF h1 h2 h3
      go_enter Try.func54, Try.ntmps54
      go_wp2_with fail
      all_goals
        go_loopg [44] 0 (fun kq v44 wr => v44 = .int .i64 0 ∧ Aside0 (∃ m', 0 ≤ m' ∧ m' ≤ 17 ∧ Wk w0 wr gc gd ga (c + 1) m') ∧ Aside0 (Mod (fun i => i = gc ∨ i = gd) w wr))
        case atStart => exact ⟨rfl, ⟨⟨_, by omega, by omega, HW.out.step _ _⟩⟩, ⟨HW.out.stepMod _ _⟩⟩
        case round =>
          obtain ⟨rfl, HK, HM⟩ := hrel
          go_wp2_with fail
          go_ret
          exact ⟨by rw [HE'.out]; rfl, by rw [HE'.out]; exact HK.out, HM.out⟩
    · have t3 : decide (0 < s.length) = true := decide_eq_true (by omega)
      have HE' := Aside0.mk (HE.out (.inr (.inr (by simp [flat]; intro e; simp [e] at h3))))
      clear HE HF h1 h2 h3
      go_enter Try.func54, Try.ntmps54
      go_wp2_with fail
      all_goals
        go_ret
        refine ⟨by rw [HE'.out]; rfl, ⟨_, ?_, ?_, by rw [HE'.out]; exact HW.out.step _ _⟩, HW.out.stepMod _ _⟩ <;> omega
  · by_cases h3 : t.size = 0
    · obtain rfl : t = ⟨#[]⟩ := by
        cases t with
        | mk d => simp only [ByteArray.size] at h3; rw [Array.eq_empty_of_size_eq_zero h3]
      have HE' := Aside0.mk (HF.out (by
        rintro (h | h | h)
        · omega
        · omega
        · rw [show flat (⟨#[]⟩ : ByteArray) true s = true from rfl] at h; cases h))
      have hc1 : c + 1 ≤ 1024 := by omega
      have hd1 : d ≤ 16 := by omega
      clear HE HF h1 h2 h3
      go_enter Try.func54, Try.ntmps54
      go_wp2_with fail
      all_goals
        go_loopg [44] s.length (fun kq v44 wr => ∃ (i c' : Nat) (m' : Int), v44 = .int .i64 i ∧ i ≤ s.length ∧ i ≤ c' ∧ c' ≤ 1024 ∧ 0 ≤ m' ∧ m' ≤ 17 ∧ Aside0 (wks (s.drop i) (d + 1) c' = wks s (d + 1) (c + 1)) ∧ Aside0 (kq = s.length - i) ∧ Aside0 (Wk w0 wr gc gd ga c' m') ∧ Aside0 (Mod (fun i => i = gc ∨ i = gd) w wr))
        case atStart => exact ⟨0, c + 1, _, by go_num, Nat.zero_le _, Nat.zero_le _, hc1, by omega, by omega, ⟨rfl⟩, ⟨rfl⟩, ⟨HW.out.step _ _⟩, ⟨HW.out.stepMod _ _⟩⟩
        case round =>
          clear c0 c1 c3 f0 f1 l1 l2 l3
          obtain ⟨i, c', m', rfl, hi, hic, hc'1, hm'0, hm'1, HQ, HK, HWk, HM⟩ := hrel
          by_cases hlt : i < s.length
          · have hltb : decide (i < s.length) = true := decide_eq_true hlt
            have p1 : (0 : Int) ≤ (i : Int) := by omega
            have q1 : (i : Int) < (s.length : Nat) := by omega
            obtain ⟨ad, A2, cc2, e1, hx0, hx1, hx2, hl2, hi2⟩ := at_T43 HR.out i p1 q1
            cases e1
            replace hx0 := (HWk.out.below.cell (World.block_lt_of_cell? w0 _ hx0)).trans hx0
            replace hx1 := (HWk.out.below.cell (World.block_lt_of_cell? w0 _ hx1)).trans hx1
            replace hx2 := (HWk.out.below.cell (World.block_lt_of_cell? w0 _ hx2)).trans hx2
            have hy : rd_T43 s i = s[i] := by simp [rd_T43, List.getD_eq_getElem?_getD, hlt]
            have hcs : cnt s[i] < n := by have := cnt_sub (x := ⟨⟨#[]⟩, true, s⟩) hlt; simp only at this; omega
            obtain ⟨y, hye⟩ : ∃ y, rd_T43 s i = y := ⟨_, rfl⟩
            rw [hye] at hx0 hx1 hx2 hl2 hi2
            rw [Int.toNat_natCast] at hx0 hx1 hx2
            rw [← hy, hye] at hcs
            have hdr : s.drop i = y :: s.drop (i + 1) := by rw [List.drop_eq_getElem_cons hlt, ← hy, hye]
            have HQ2 : Aside0 (wks s (d + 1) (c + 1) = if (wk y (d + 1) c').2 = true then wks (s.drop (i + 1)) (d + 1) (wk y (d + 1) c').1 else ((wk y (d + 1) c').1, false)) := ⟨by rw [← HQ.out, hdr, wks]⟩
            have HI2 := Aside0.mk hi2
            have HL2 := Aside0.mk hl2
            have g0 := HWk.out.c2
            have l4 := blk_lt HWk.out.ba
            have HY := Aside0.mk hye
            have HIH : Aside0 (∀ W, Wk w0 W gc gd ga c' m' → Calls Try.prog 54 #[.agg #[.string y.f0, .bool y.f1, .slice A2 y.f2.length cc2], .int .i64 ((d : Int) + 1), Ptr gc, Ptr gd, Ptr ga] W (Wkd w0 gc gd ga (wk y (d + 1) c') W)) := ⟨fun W hW => ih y hcs A2 cc2 (d + 1) c' m' w0 W gc gd ga HI2.out HL2.out hW (by omega) hc'1 hm'0 hm'1⟩
            have hcp := cnt_pos y
            have HSP : Aside0 ((wk y (d + 1) c').2 = true → (wk y (d + 1) c').1 = c' + cnt y ∧ c' + cnt y ≤ 1024) := ⟨fun e => ⟨(wk_spec y (d + 1) c').2 e, ((wk_spec y (d + 1) c').1.1 e).2.2⟩⟩
            obtain ⟨⟨c5, b5⟩, hr5⟩ : ∃ r, wk y (d + 1) c' = r := ⟨_, rfl⟩
            rw [hr5] at HIH HSP HQ2
            clear hi2 hl2 hy hdr hye HQ hr5
            replace p1 := eq_true p1
            replace q1 := eq_true q1
            go_wp2_with fail
            refine (HIH.out _ (HWk.out.alloc _)).mono ?_
            rintro e w5 ⟨rfl, hk5, hm5⟩
            have HK5 := Aside0.mk hk5
            have HM5 : Aside0 (Mod (fun i => i = gc ∨ i = gd) w w5) := ⟨(HM.out.alloc _).same hm5⟩
            clear hk5 hm5 HWk HM
            cases b5
            · have HQ3 : Aside0 (wks s (d + 1) (c + 1) = (c5, false)) := ⟨by rw [HQ2.out]; rfl⟩
              clear HQ2 HSP
              go_wp2_with fail
              go_ret
              exact ⟨by rw [HE'.out, HQ3.out]; rfl, by rw [HE'.out, HQ3.out]; exact HK5.out, HM5.out⟩
            · have HQ3 : Aside0 (wks (s.drop (i + 1)) (d + 1) c5 = wks s (d + 1) (c + 1)) := ⟨by rw [HQ2.out]; rfl⟩
              obtain ⟨z1, z2⟩ := HSP.out rfl
              obtain ⟨m5, hm50, hm51, hk5⟩ := HK5.out
              have HK6 := Aside0.mk hk5
              clear HQ2 HSP hk5 HK5
              have z3 : i + 1 ≤ c5 := by omega
              have z4 : c5 ≤ 1024 := by omega
              clear z1 z2
              go_wp2_with fail
              go_roundg (s.length - (i + 1))
              case measure => have := HK.out; omega
              case rel => exact ⟨i + 1, c5, m5, by go_num, by omega, z3, z4, hm50, hm51, HQ3, ⟨rfl⟩, HK6, HM5⟩
          · have hltb : decide (i < s.length) = false := decide_eq_false hlt
            have HQ3 : Aside0 (wks s (d + 1) (c + 1) = (c', true)) := ⟨by rw [← HQ.out, List.drop_eq_nil_of_le (by omega), wks]⟩
            clear HQ
            go_wp2_with fail
            go_ret
            exact ⟨by rw [HE'.out, HQ3.out]; rfl, ⟨m', hm'0, hm'1, by rw [HE'.out, HQ3.out]; exact HWk.out⟩, HM.out⟩
    · have HE' := Aside0.mk (HE.out (by simp [flat, h3]))
      have te := toList_ne h3
      have tf : t.toList.isEmpty = false := by cases e : t.toList with | nil => exact absurd e te | cons => rfl
      clear HE HF h1 h2
      go_enter Try.func54, Try.ntmps54
      go_wp2_with fail
      all_goals
        go_ret
        refine ⟨by rw [HE'.out]; rfl, ⟨_, ?_, ?_, by rw [HE'.out]; exact HW.out.step _ _⟩, HW.out.stepMod _ _⟩ <;> omega

set_option maxRecDepth 100000 in
set_option maxHeartbeats 2000000 in
theorem walk_all (x : S43) (A : Option Addr) (c2 : Nat) (w : World) (hr : Kd.C k43 w A x.f2.length x.f2) (hl : x.f2.length ≤ c2) :
    Calls Try.prog 48 #[.agg #[.string x.f0, .bool x.f1, .slice A x.f2.length c2]] w fun e w' => (∃ p q : Int, e = .returned (.tuple #[.int .i64 p, .int .i64 q, .bool (wk x 1 0).2])) ∧ Below w.heap.size w w' := by
  have HR := Aside0.mk hr
  have HIH : Aside0 (∀ W, Wk w W (w.heap.size + 1) (w.heap.size + 1 + 1) (w.heap.size + 1 + 1 + 1) 0 0 → Calls Try.prog 54 #[.agg #[.string x.f0, .bool x.f1, .slice A x.f2.length c2], .int .i64 1, Ptr (w.heap.size + 1), Ptr (w.heap.size + 1 + 1), Ptr (w.heap.size + 1 + 1 + 1)] W (Wkd w (w.heap.size + 1) (w.heap.size + 1 + 1) (w.heap.size + 1 + 1 + 1) (wk x 1 0) W)) :=
    ⟨fun W hW => walk_calls (cnt x + 1) x (by omega) A c2 1 0 0 w W _ _ _ hr hl hW (by omega) (by omega) (by omega) (by omega)⟩
  obtain ⟨⟨c5, b5⟩, hr5⟩ : ∃ r, wk x 1 0 = r := ⟨_, rfl⟩
  rw [hr5] at HIH ⊢
  clear hr hr5 hl
  go_enter Try.func48, Try.ntmps48
  go_wp2_with fail
  refine (HIH.out _ ?_).mono ?_
  · refine ⟨?_, ?_, ?_, ?_, by omega, by omega, by omega, by omega, by omega, by omega⟩
    · exact blk_alloc (blk_alloc (by have := blk_new (w.alloc (.cells #[.string x.f0, .bool x.f1, .slice A x.f2.length c2] 43)) (.cells #[.int .i64 0] 3); rwa [World.size_alloc] at this) _) _
    · exact blk_alloc (by have := blk_new ((w.alloc (.cells #[.string x.f0, .bool x.f1, .slice A x.f2.length c2] 43)).alloc (.cells #[.int .i64 0] 3)) (.cells #[.int .i64 0] 3); rwa [World.size_alloc, World.size_alloc] at this) _
    · have := blk_new (((w.alloc (.cells #[.string x.f0, .bool x.f1, .slice A x.f2.length c2] 43)).alloc (.cells #[.int .i64 0] 3)).alloc (.cells #[.int .i64 0] 3)) (.cells #[clo (w.heap.size + 1) (w.heap.size + 1 + 1) (w.heap.size + 1 + 1 + 1)] 83)
      rwa [World.size_alloc, World.size_alloc, World.size_alloc] at this
    · exact below_alloc (below_alloc (below_alloc (below_alloc (Below.refl _ _) _) _) _) _
  rintro e w5 ⟨rfl, ⟨m5, _, _, hk5⟩, hm5⟩
  have h0 := hk5.c0
  have h1 := hk5.c1
  have HB := Aside0.mk hk5.below
  clear hk5 hm5
  go_wp2_with fail
  go_quiet (fail)
  go_wp2_with fail
  exact bodyPost_ret (v := .tuple #[.int .i64 c5, .int .i64 m5, .bool b5]) (by simp [results, Try.results48, go_sem]) rfl ⟨⟨_, _, rfl⟩, pw_below_drewN HB.out _⟩

set_option maxRecDepth 100000 in
set_option maxHeartbeats 2000000 in
theorem may_calls (x : S43) (A : Option Addr) (c2 : Nat) (w : World) (hr : Kd.C k43 w A x.f2.length x.f2) (hl : x.f2.length ≤ c2) :
    Calls Try.prog 42 #[.agg #[.string x.f0, .bool x.f1, .slice A x.f2.length c2]] w fun e w' => e = .returned (.bool (may x)) ∧ Below w.heap.size w w' := by
  have HR := Aside0.mk hr
  have HW : Aside0 (∀ o, Calls Try.prog 48 #[.agg #[.string x.f0, .bool x.f1, .slice A x.f2.length c2]] (w.alloc o) fun e w' => (∃ p q : Int, e = .returned (.tuple #[.int .i64 p, .int .i64 q, .bool (wk x 1 0).2])) ∧ Below (w.heap.size + 1) (w.alloc o) w') :=
    ⟨fun o => by have := walk_all x A c2 (w.alloc o) (Kd.C_below hr (below_alloc (Below.refl _ _) o)) hl; rwa [World.size_alloc] at this⟩
  rw [wk_may] at HW
  obtain ⟨b, hb⟩ : ∃ b, may x = b := ⟨_, rfl⟩
  rw [hb] at HW ⊢
  clear hr hl hb
  go_enter Try.func42, Try.ntmps42
  go_wp2_with fail
  refine (HW.out _).mono ?_
  rintro e w5 ⟨⟨p, q, rfl⟩, hb⟩
  have HB : Aside0 (Below w.heap.size w w5) := ⟨(below_alloc (Below.refl _ _) _).trans (hb.mono (by omega))⟩
  clear hb
  go_wp2_with fail
  go_ret
  exact ⟨rfl, HB.out⟩
end Go.Proofs.Ytkdkdjhdoplicaa.It
