/- snap's unpacker: a copy, by a contract. -/
import Derived.Test.YtpceignbgnekmaaSnB
namespace Go.Proofs.Ytpceignbgnekmaa.Sn
open Go.RowKit Go.Proofs.YtpceignbgnekmaaW.PrintWords Go.Proofs.Ytpceignbgnekmaa.By Go.Proofs.Ytpceignbgnekmaa.Md Go.Proofs.Ytpceignbgnekmaa.Cur

/-- so many bytes more, each from so far back -/
def rep (b : Nat) : Nat → List Int → List Int
  | 0, xs => xs
  | k + 1, xs => rep b k (xs ++ [xs.getD (xs.length - b) 0])

theorem rep_len (b : Nat) : ∀ (k : Nat) (xs : List Int), (rep b k xs).length = xs.length + k
  | 0, xs => rfl
  | k + 1, xs => by rw [rep, rep_len b k, List.length_append]; simp; omega
theorem rep_in (b : Nat) : ∀ (k : Nat) (xs : List Int), InByte xs → InByte (rep b k xs)
  | 0, xs, h => h
  | k + 1, xs, h => by
    refine rep_in b k _ (h.append (InByte.cons ?_ InByte.nil))
    rw [List.getD_eq_getElem?_getD]
    rcases Nat.lt_or_ge (xs.length - b) xs.length with hl | hl
    · rw [List.getElem?_eq_getElem hl]; exact h _ (List.getElem_mem hl)
    · rw [List.getElem?_eq_none hl]; decide

def cpF (len : Nat) (f back : Int) : Int := if (back = 0 ∨ (len : Int) < back) ∧ f = 0 then 3 else f
def cp (size : Int) (σ : St) (n back : Int) : St :=
  let f2 := roomF size σ.1.length (cpF σ.1.length σ.2.2 back) n
  if f2 = 0 then (rep back.toNat n.toNat σ.1, σ.2.1, 0) else (σ.1, σ.2.1, f2)

theorem fail_calls (w : World) (g : Nat) (s : ByteArray) (a : Nat) (f : Int) (h : Rd w g s a f) (x : Int) :
    Calls Try.prog 41 #[Ptr g, .int .i64 x] w fun e w' => e = .returned (.tuple #[]) ∧ Rd w' g s a (if f = 0 then x else f) ∧ Mod (· = g) w w' := by
  by_cases hf : f = 0
  · subst hf
    rw [if_pos rfl]
    exact (fail0_calls w g s a h x).mono fun e w' ⟨he, hw⟩ => ⟨he, by subst hw; exact h.set2 x, by subst hw; exact (Mod.refl _ _).setCell _ _ (.inl rfl)⟩
  · rw [if_neg hf]
    exact (fail1_calls w g s a f hf h x).mono fun e w' ⟨he, hw⟩ => ⟨he, by subst hw; exact h, by subst hw; exact Mod.refl _ _⟩

set_option maxRecDepth 100000 in
set_option maxHeartbeats 4000000 in
theorem cp_calls (B0 : Nat) (w0 w : World) (U R : Nat) (A : Option Addr) (c : Nat) (xs : List Int) (size : Int) (s : ByteArray) (a : Nat) (f : Int) (n b : Nat) (h : Un B0 w U R A c xs size s a f) (hb : Below B0 w0 w) (hB : B0 ≤ w.heap.size)
    (hs0 : 0 ≤ size) (hs1 : size ≤ 4294967295) (hl : (xs.length : Int) ≤ size) (hn : n ≤ 64) (hbk : b ≤ 4294967296) :
    Calls Try.prog 59 #[Ptr U, .int .i64 n, .int .i64 b] w (Went B0 w0 w U R size s (cp size (xs, a, f) n b)) := by
  have c0 := h.c0
  have c1 := h.c1
  have H := Aside0.mk h
  have HBl := Aside0.mk hb
  clear h hb
  -- the first test: either way a reader with a fault f1
  have hbad : (((b : Int) == 0) = true ∨ (((b : Int) == 0) = false ∧ decide (xs.length < b) = true)) ∨ (((b : Int) == 0) = false ∧ decide (xs.length < b) = false ∧ 0 < b) := by
    by_cases h0 : b = 0
    · exact .inl (.inl (beq_iff_eq.mpr (by omega)))
    · have e : ((b : Int) == 0) = false := beq_eq_false_iff_ne.mpr (by omega)
      by_cases h1 : xs.length < b
      · exact .inl (.inr ⟨e, decide_eq_true h1⟩)
      · exact .inr ⟨e, decide_eq_false h1, by omega⟩
  rcases hbad with hbad | ⟨hb1, hb2, hb0⟩
  · have hbc : (b : Int) = 0 ∨ (xs.length : Int) < b := by
      rcases hbad with h | ⟨_, h⟩
      · exact .inl (beq_iff_eq.1 h)
      · exact .inr (by have := of_decide_eq_true h; omega)
    have e1 : cpF xs.length f b = if f = 0 then 3 else f := by
      unfold cpF
      by_cases hf : f = 0
      · rw [if_pos ⟨hbc, hf⟩, if_pos hf]
      · rw [if_neg (fun h => hf h.2), if_neg hf]
    obtain ⟨f1, hf1, hf10⟩ : ∃ f1, (if f = 0 then 3 else f) = f1 ∧ f1 ≠ 0 := ⟨_, rfl, by split <;> omega⟩
    have e2 : cp size (xs, a, f) n b = (xs, a, f1) := by
      have h1 : roomF size xs.length f1 n = f1 := by rw [roomF, if_neg (fun h => hf10 h.1)]
      simp only [cp, e1, hf1, h1, if_neg hf10]
    rw [e2]
    have hfa := fail_calls w R s a f H.out.rd 3
    rw [hf1] at hfa
    have hfb : (f1 != 0) = true := bne_iff_ne.mpr hf10
    have hr1 : roomF size xs.length f1 n = f1 := by rw [roomF, if_neg (fun h => hf10 h.1)]
    have hro : ∀ W, Un B0 W U R A c xs size s a f1 → Calls Try.prog 66 #[Ptr U, .int .i64 n] W fun e w' => e = .returned (.tuple #[]) ∧ Rd w' R s a f1 ∧ Mod (· = R) W w' := by
      intro W hW
      have := room_calls B0 W U R A c xs size s a f1 n hW hs0 (by omega) (by omega)
      rw [hr1] at this
      exact this
    have HFA := Aside0.mk hfa
    have HRO := Aside0.mk hro
    clear e1 e2 hf1 hf10 hfa hr1 hro hbc
    rcases hbad with hb1 | ⟨hb1, hb2⟩
    all_goals
      go_enter Try.func59, Try.ntmps59
      go_wp2_with fail
      refine HFA.out.mono ?_
      rintro e w9 ⟨rfl, hr9, hm9⟩
      have H9 := Aside0.mk (H.out.reader hm9 hr9)
      have HB9 := Aside0.mk (hm9.below HBl.out hB (by rintro i rfl; exact H.out.hR))
      have hB9 : B0 ≤ w9.heap.size := Nat.le_trans hB hm9.size
      have hz9 : w.heap.size ≤ w9.heap.size := hm9.size
      clear hr9 hm9 c0 c1
      go_wp2_with fail
      refine (HRO.out w9 H9.out).mono ?_
      rintro e w1 ⟨rfl, hr1, hm1⟩
      have H1 := Aside0.mk (H9.out.reader hm1 hr1)
      have HB1 := Aside0.mk (hm1.below HB9.out hB9 (by rintro i rfl; exact H9.out.hR))
      have hz1 : w.heap.size ≤ w1.heap.size := Nat.le_trans hz9 hm1.size
      clear hr1 hm1 HRO
      have c0 := H1.out.c0
      go_wp2_with fail
      refine (fault_calls _ R s a f1 H1.out.rd).mono ?_
      rintro e w2 ⟨rfl, rfl⟩
      go_wp2_with fail
      refine bodyPost_ret (results_none rfl _ _ _) rfl ?_
      exact ⟨rfl, A, c, H1.out, HB1.out, hz1⟩
  · have hle : b ≤ xs.length := by simpa using hb2
    have e1 : cpF xs.length f b = f := by rw [cpF, if_neg (by omega)]
    have hro := room_calls B0 w U R A c xs size s a f n H.out hs0 (by omega) (by omega)
    by_cases hf2 : roomF size xs.length f n = 0
    · have hf0 : f = 0 ∧ (xs.length : Int) + n ≤ size := by
        unfold roomF at hf2
        split at hf2 <;> omega
      obtain ⟨rfl, hsz⟩ := hf0
      have e2 : cp size (xs, a, 0) n b = (rep b n xs, a, 0) := by simp only [cp, e1, hf2, if_true, Int.toNat_natCast]
      rw [e2]
      rw [hf2] at hro
      have HRO := Aside0.mk hro
      clear e1 e2 hf2 hro
      go_enter Try.func59, Try.ntmps59
      go_wp2_with fail
      refine HRO.out.mono ?_
      rintro e w1 ⟨rfl, hr1, hm1⟩
      have H1 := Aside0.mk (H.out.reader hm1 hr1)
      have HB1 := Aside0.mk (hm1.below HBl.out hB (by rintro i rfl; exact H.out.hR))
      have hB1 : B0 ≤ w1.heap.size := Nat.le_trans hB hm1.size
      have hz1 : w.heap.size ≤ w1.heap.size := hm1.size
      clear hr1 hm1 HRO c0 c1
      have c0 := H1.out.c0
      go_wp2_with fail
      refine (fault_calls _ R s a 0 H1.out.rd).mono ?_
      rintro e w2 ⟨rfl, rfl⟩
      go_wp2_with fail
      clear c0
      go_loopg [32] n (fun kq v32 wr => ∃ (k : Nat) (A' : Option Addr) (c' : Nat) (ys : List Int), v32 = .int .i64 k ∧ k ≤ n ∧ Aside0 (kq = n - k) ∧ Aside0 (ys.length = xs.length + k) ∧ Aside0 (rep b (n - k) ys = rep b n xs) ∧ Aside0 (Un B0 wr U R A' c' ys size s a 0) ∧ Aside0 (Below B0 w0 wr) ∧ w.heap.size ≤ wr.heap.size)
      case atStart => exact ⟨0, A, c, xs, rfl, by omega, ⟨by omega⟩, ⟨rfl⟩, ⟨rfl⟩, H1, HB1, hz1⟩
      case round =>
        clear H1 HB1
        obtain ⟨k, A', c', ys, rfl, hk, HK, HY, HE, HU, HB2, hz2⟩ := hrel
        by_cases hlt : k < n
        · have hlen := HY.out
          obtain ⟨g, cap, hg, _, hgl⟩ := HU.out.own.form (by omega)
          simp only [Value.slice.injEq] at hg
          obtain ⟨rfl, _, rfl⟩ := hg
          have hat := own_at HU.out.own ((ys.length - b : Nat) : Int) (by omega) (by omega)
          rw [Int.toNat_natCast] at hat
          obtain ⟨y, hy⟩ : ∃ y, y = rd ys ((ys.length - b : Nat) : Int) := ⟨_, rfl⟩
          rw [← hy] at hat
          have hcell := hat.1
          have hwi : IntKind.i64.wrap ((ys.length : Int) - (b : Int)) = ((ys.length - b : Nat) : Int) := by rw [IntKind.wrap_i64]; omega
          have c1 := HU.out.c1
          have c1a := fun o => (HU.out.alloc o).c1
          have hix : ys.length - b < ys.length := by omega
          have hOW : (wr.alloc (.cells #[.int .u8 y] 5)).drew.ownsRow B0 5 1 (.slice (some ⟨g, 0, none⟩) ys.length c') ys.length (nums .u8 ys) := HU.out.own.alloc _
          have hBW : (wr.alloc (.cells #[.int .u8 y] 5)).drew.heap[wr.heap.size]? = some (.cells #[.int .u8 y] 5 (0, 0)) := blk_new _ _
          have HOW := Aside0.mk hOW
          have HBW := Aside0.mk hBW
          have HUW := Aside0.mk (show Un B0 (wr.alloc (.cells #[.int .u8 y] 5)).drew U R (some ⟨g, 0, none⟩) c' ys size s a 0 from (HU.out.alloc _).drew)
          have HYY := Aside0.mk hy
          have hbase : B0 ≤ wr.heap.size := Nat.le_trans hB hz2
          have hby : ys.length + 1 ≤ 140737488355328 := by omega
          clear hOW hBW hat hy hlen
          go_wp2_with fail
          go_region_law (refine step_append_byte rfl (.tmp 38) (.tmp 52) rfl B0 (.slice (some ⟨g, 0, none⟩) ys.length c') ys y (by simp [Act.eval]) HOW.out wr.heap.size 1 (by simp [Act.eval]) HBW.out hby ?_ ?_; (exact Nat.le_trans hbase (by simp)); intro A2 c2 w5 ho hg; have HH := Aside0.mk (HUW.out.appended hg ho); have HBB := Aside0.mk (fun v => HUW.out.below_append (HB2.out.alloc hbase _).drew (Nat.le_trans hbase (by simp)) hg v); have hz5 : wr.heap.size ≤ w5.heap.size := Nat.le_trans (by simp) hg.size; have hx1 := HH.out.1; have hx2 := HH.out.2.1; have hx3 := HH.out.2.2.1; clear ho hg)
          all_goals
            go_wp2_with fail
            go_roundg (n - (k + 1))
            case measure => have := HK.out; omega
            case rel =>
              have hu := HH.out.2.2.2
              have hl2 : (ys ++ [y]).length = ys.length + 1 := by simp
              rw [hl2] at hu
              refine ⟨k + 1, A2, c2, ys ++ [y], by go_num, by omega, ⟨rfl⟩, ⟨by rw [hl2, HY.out]; omega⟩, ⟨?_⟩, ⟨hu⟩, ⟨HBB.out _⟩, by simp only [World.size_setCell]; omega⟩
              rw [← HE.out, show n - k = (n - (k + 1)) + 1 by omega, rep, HYY.out]
              simp [rd]
        · obtain rfl : k = n := by omega
          go_wp2_with fail
          go_end0
          have hE := HE.out
          rw [Nat.sub_self, rep] at hE
          refine ⟨rfl, A', c', ?_, HB2.out, hz2⟩
          rw [← hE]
          exact HU.out
    · have e2 : cp size (xs, a, f) n b = (xs, a, roomF size xs.length f n) := by simp only [cp, e1, hf2, if_false]
      rw [e2]
      obtain ⟨f2, hf⟩ : ∃ f2, roomF size xs.length f n = f2 := ⟨_, rfl⟩
      rw [hf] at hro hf2 ⊢
      have hfb : (f2 != 0) = true := bne_iff_ne.mpr hf2
      have HRO := Aside0.mk hro
      clear e1 e2 hf2 hro hf
      go_enter Try.func59, Try.ntmps59
      go_wp2_with fail
      refine HRO.out.mono ?_
      rintro e w1 ⟨rfl, hr1, hm1⟩
      have H1 := Aside0.mk (H.out.reader hm1 hr1)
      have HB1 := Aside0.mk (hm1.below HBl.out hB (by rintro i rfl; exact H.out.hR))
      have hz1 : w.heap.size ≤ w1.heap.size := hm1.size
      clear hr1 hm1 HRO c0 c1
      have c0 := H1.out.c0
      go_wp2_with fail
      refine (fault_calls _ R s a f2 H1.out.rd).mono ?_
      rintro e w2 ⟨rfl, rfl⟩
      go_wp2_with fail
      refine bodyPost_ret (results_none rfl _ _ _) rfl ?_
      exact ⟨rfl, A, c, H1.out, HB1.out, hz1⟩
end Go.Proofs.Ytpceignbgnekmaa.Sn
