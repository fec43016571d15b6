/- The document's Put, and Size, walked: both are the bytes of a number. -/
import Derived.Test.YtpceignbgnekmaaLeb
namespace Go.Proofs.Ytpceignbgnekmaa.LebPut
open Go.RowKit Go.Proofs.YtpceignbgnekmaaW.PrintWords Go.Proofs.Ytpceignbgnekmaa.By Go.Proofs.Ytpceignbgnekmaa.Leb

theorem div_w {m : Int} (h0 : 0 ≤ m) (h1 : m < 18446744073709551616) : IntKind.u64.wrap (m.tdiv 128) = m / 128 := by
  rw [IntKind.wrap_u64, Int.tdiv_eq_ediv_of_nonneg h0]; omega

theorem byte_w {m : Int} (h0 : 0 ≤ m) : IntKind.u8.wrap (IntKind.u8.wrap (m.tmod 128) + 128) = m % 128 + 128 := by
  rw [IntKind.wrap_u8, IntKind.wrap_u8, Int.tmod_eq_emod_of_nonneg h0]; omega

/-- string([]byte{x}) -/
theorem conv1 (x : Int) (W : World) : (convert 32 9 (.slice (some ⟨W.heap.size, 0, none⟩) 1 1)).run Try.prog (W.alloc (.cells #[.int .u8 x] 5)) = .ok (.string (strOfNums [x])) (W.alloc (.cells #[.int .u8 x] 5)) := by
  have h := own_lit W W.heap.size 5 .u8 [x] (Nat.le_refl _) (by simp)
  exact own_string (P := Try.prog) Try.underlying32 Try.underlying5 Try.underlying9 h

theorem conv1d (x : Int) (W : World) : (convert 32 9 (.slice (some ⟨W.heap.size, 0, none⟩) 1 1)).run Try.prog (W.alloc (.cells #[.int .u8 x] 5)).drew = .ok (.string (strOfNums [x])) (W.alloc (.cells #[.int .u8 x] 5)).drew := by
  have h : (W.alloc (.cells #[.int .u8 x] 5)).drew.ownsRow W.heap.size 5 1 (.slice (some ⟨W.heap.size, 0, none⟩) 1 1) 1 (nums .u8 [x]) := (own_lit W W.heap.size 5 .u8 [x] (Nat.le_refl _) (by simp))
  exact own_string (P := Try.prog) Try.underlying32 Try.underlying5 Try.underlying9 h

theorem conv1b (x : Int) (W : World) {w4 : World} (hb : Below (W.alloc (.cells #[.int .u8 x] 5)).drew.heap.size (W.alloc (.cells #[.int .u8 x] 5)).drew w4) :
    (convert 32 9 (.slice (some ⟨W.heap.size, 0, none⟩) 1 1)).run Try.prog w4 = .ok (.string (strOfNums [x])) w4 := by
  have h : (W.alloc (.cells #[.int .u8 x] 5)).drew.ownsRow W.heap.size 5 1 (.slice (some ⟨W.heap.size, 0, none⟩) 1 1) 1 (nums .u8 [x]) := (own_lit W W.heap.size 5 .u8 [x] (Nat.le_refl _) (by simp))
  exact own_string (P := Try.prog) Try.underlying32 Try.underlying5 Try.underlying9 (pw_own_below h hb)

set_option maxRecDepth 100000 in
set_option maxHeartbeats 1000000 in
theorem size (w : World) : ∀ (n : Int), 0 ≤ n → n < 18446744073709551616 →
    Calls Try.prog 19 #[.int .u64 n] w fun e w' => e = .returned (.int .i64 ((putL 9 n).length : Int)) ∧ Below w.heap.size w w' := by
  intro n h0 h1
  have HB := Aside0.mk (Below.refl w.heap.size w)
  have hb10 : n < 128 ^ 10 := by have : (128 : Int) ^ 10 = 1180591620717411303424 := by decide
                                 omega
  have HP := Aside0.mk (show n < 128 ^ (9 + 1) from hb10)
  have HN := Aside0.mk h1
  clear h1 hb10
  go_enter Try.func19, Try.ntmps19
  go_wp2
  go_loopg [0, 3] 9 (fun kq v0 v3 w' => ∃ (j i : Nat) (m : Int), v0 = .int .u64 m ∧ v3 = .int .i64 ((i + 1 : Nat) : Int) ∧ 0 ≤ m ∧ i + j = 9 ∧ Aside0 (m < 128 ^ (j + 1)) ∧ Aside0 (m < 18446744073709551616) ∧ Aside0 (kq = j) ∧ Aside0 ((putL 9 n).length = i + (putL j m).length) ∧ Aside0 (Below w.heap.size w w'))
  case atStart => exact ⟨9, 0, n, rfl, rfl, h0, rfl, HP, HN, ⟨rfl⟩, ⟨by omega⟩, HB⟩
  case round =>
    clear HB HP HN
    obtain ⟨j, i, m, rfl, rfl, hm0, hij, HP, HN, HK, HL, HB⟩ := hrel
    have hi : i ≤ 9 := by omega
    by_cases hc : 128 ≤ m
    · cases j with
      | zero => exact absurd HP.out (by simp; omega)
      | succ j =>
        have hcb : decide (128 ≤ m) = true := decide_eq_true hc
        go_wp2
        go_roundg j
        case measure => have := HK.out; omega
        case rel =>
          have hp : (128 : Int) ^ (j + 1 + 1) = 128 ^ (j + 1) * 128 := Int.pow_succ ..
          have h2 := HP.out
          have h3 := HN.out
          have e1 : putL (j + 1) m = (m % 128 + 128) :: putL j (m / 128) := by rw [putL, if_pos hc]
          have h4 := HL.out
          rw [e1] at h4
          simp only [List.length_cons] at h4
          exact ⟨j, i + 1, m / 128, by rw [div_w hm0 HN.out], by go_num, by omega, by omega, ⟨by omega⟩, ⟨by omega⟩, ⟨rfl⟩, ⟨by omega⟩, HB⟩
    · have hcb : decide (128 ≤ m) = false := decide_eq_false hc
      go_wp2
      go_ret
      refine ⟨?_, HB.out⟩
      have h4 := HL.out
      have e1 : putL j m = [m] := by
        cases j with
        | zero => rfl
        | succ j => rw [putL, if_neg (by omega)]
      rw [e1] at h4
      rw [h4]
      rfl

set_option maxRecDepth 100000 in
set_option maxHeartbeats 2000000 in
theorem put : ∀ (j : Nat) (n : Int) (w : World), j ≤ 9 → 0 ≤ n → n < 128 ^ (j + 1) → n < 18446744073709551616 →
    Calls Try.prog 18 #[.int .u64 n] w fun e w' => e = .returned (.string (strOfNums (putL j n))) ∧ Below w.heap.size w w' := by
  intro j
  induction j with
  | zero =>
    intro n w hj h0 h1 h2
    have HJ := Aside0.mk hj
    clear hj
    have HB := Aside0.mk (Below.refl w.heap.size w)
    have hn : n < 128 := by simpa using h1
    have hnb : decide (n < 128) = true := decide_eq_true hn
    clear h1 h2
    have hcv := conv1 n
    go_enter Try.func18, Try.ntmps18
    go_wp2
    go_ret
    exact ⟨rfl, HB.out.alloc (Nat.le_refl _) _⟩
  | succ j ih =>
    intro n w hj h0 h1 h2
    have HJ := Aside0.mk hj
    clear hj
    have HB := Aside0.mk (Below.refl w.heap.size w)
    have IH := Aside0.mk ih
    clear ih
    have h2' := Aside0.mk h2
    have h1' := Aside0.mk h1
    clear h1 h2
    by_cases hn : n < 128
    · have hnb : decide (n < 128) = true := decide_eq_true hn
      have hcv := conv1 n
      go_enter Try.func18, Try.ntmps18
      go_wp2_with fail
      go_ret
      refine ⟨?_, HB.out.alloc (Nat.le_refl _) _⟩
      have e1 : putL (j + 1) n = [n] := by rw [putL, if_neg (by omega)]
      rw [e1]; rfl
    · have hnb : decide (n < 128) = false := decide_eq_false hn
      have hcv := conv1 (IntKind.u8.wrap (IntKind.u8.wrap (n.tmod 128) + 128))
      have hcw := conv1d (IntKind.u8.wrap (IntKind.u8.wrap (n.tmod 128) + 128))
      have hd := div_w h0 h2'.out
      obtain ⟨q, hq⟩ : ∃ q, q = strOfNums [IntKind.u8.wrap (IntKind.u8.wrap (n.tmod 128) + 128)] := ⟨_, rfl⟩
      obtain ⟨r, hr⟩ : ∃ r, r = strOfNums (putL j (n / 128)) := ⟨_, rfl⟩
      rw [← hq] at hcv hcw
      have hsz : q.size + r.size ≤ 9223372036854775807 := by
        rw [hq, hr, strOfNums_size, strOfNums_size]
        have := putL_len j (n / 128)
        simp only [List.length_cons, List.length_nil]
        have := HJ.out
        omega
      have hp : (128 : Int) ^ (j + 1 + 1) = 128 ^ (j + 1) * 128 := Int.pow_succ ..
      have hih := fun W => IH.out (n / 128) W (by have := HJ.out; omega) (by omega) (by have := h1'.out; omega) (by have := h2'.out; omega)
      rw [← hr] at hih
      have HI := Aside0.mk hih
      have HQ := Aside0.mk hq
      have HR := Aside0.mk hr
      clear IH hp hih hq hr
      go_enter Try.func18, Try.ntmps18
      go_wp2_with fail
      go_region_with (go_at_call 18; refine (HI.out _).mono ?_; rintro e w4 ⟨rfl, hb⟩; try (have hc4 := conv1b _ _ hb; rw [← HQ.out] at hc4); have HB4 : Aside0 (Below w.heap.size w w4) := ⟨below_step (by repeat (first | (with_reducible first | exact HB.out | apply below_alloc | apply pw_below_drewN | apply below_drew1) | exact HB.out)) hb⟩; clear hb)
      all_goals
        go_wp2
        go_ret
        refine ⟨?_, by repeat (first | (with_reducible first | exact HB4.out | exact below_step HB.out.drew hb | apply below_alloc | apply pw_below_drewN | apply below_drew1) | exact HB4.out)⟩
        have e1 : q ++ r = strOfNums (putL (j + 1) n) := by
          rw [HQ.out, HR.out, append_str]
          congr 1
          have e2 : putL (j + 1) n = (n % 128 + 128) :: putL j (n / 128) := by rw [putL, if_pos hn]
          rw [e2, byte_w h0]
          rfl
        rw [← e1]
        rfl
end Go.Proofs.Ytpceignbgnekmaa.LebPut
