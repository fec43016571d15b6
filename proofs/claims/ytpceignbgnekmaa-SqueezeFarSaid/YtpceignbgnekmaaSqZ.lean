/- SqJ, SqK, SqL made one text. -/
import Derived.Test.YtpceignbgnekmaaSqY
import Derived.Test.YtpceignbgnekmaaSnH
import Derived.Test.YtpceignbgnekmaaSnO
/- The document's squeeze: its small functions, by contracts. -/
set_option linter.unusedSimpArgs false
namespace Go.Proofs.Ytpceignbgnekmaa.Sq
open Go.RowKit Go.Proofs.YtpceignbgnekmaaW.PrintWords Go.Proofs.Ytpceignbgnekmaa.By Go.Proofs.Ytpceignbgnekmaa.Cur Go.Proofs.Ytpceignbgnekmaa.Sn Go.Proofs.Ytpceignbgnekmaa.PSqueezePacks Go.Proofs.Ytpceignbgnekmaa.SqM Go.Proofs.Ytpceignbgnekmaa.LebPut

theorem emp : (⟨#[]⟩ : ByteArray).size = 0 := rfl
theorem big_f (n : Int) (h0 : 0 ≤ n) (h1 : n < 65536) : hatchwayref02_Big.f 3 n 2 = some (strOfNums [n / 256, n % 256], true) := by
  unfold hatchwayref02_Big.f hatchwayref02_Least.f
  have hu : IntKind.u64.wrap (Int.tdiv n 256) = n / 256 := by rw [IntKind.wrap_u64, Int.tdiv_eq_ediv_of_nonneg h0]; omega
  have hu2 : IntKind.u64.wrap (Int.tdiv (n / 256) 256) = 0 := by rw [IntKind.wrap_u64, Int.tdiv_eq_ediv_of_nonneg (by omega)]; omega
  have hm : Int.tmod n 256 % 256 = n % 256 := by rw [Int.tmod_eq_emod_of_nonneg h0]; omega
  have hm2 : Int.tmod (n / 256) 256 % 256 = n / 256 := by rw [Int.tmod_eq_emod_of_nonneg (by omega)]; omega
  have hin : InByte [n / 256, n % 256] := InByte.cons ⟨by omega, by omega⟩ (InByte.cons ⟨by omega, by omega⟩ InByte.nil)
  have hz : strOfNums [0] = (⟨#[0]⟩ : ByteArray) := rfl
  by_cases hn : n = 0
  · subst hn
    rfl
  · by_cases h2 : n < 256
    · have hq : n / 256 = 0 := by omega
      have hL : hatchwayref02_Least.l0 3 n (⟨#[]⟩ : ByteArray) = some (strOfNums [n % 256] ++ (⟨#[]⟩ : ByteArray)) := by
        rw [hatchwayref02_Least.l0, if_pos (by omega), hm, Option.bind_some, if_pos (by simp only [strOfNums_size, ByteArray.size_append, List.length_cons, List.length_nil, List.length_append, emp]; omega), hu, hq, hatchwayref02_Least.l0, if_neg (by decide)]
      have e : strOfNums [n % 256] ++ (⟨#[]⟩ : ByteArray) = strOfNums [n % 256] := by apply bytes_inj; rw [bytes_append]; exact List.append_nil _
      rw [hL, e, Option.bind_some, if_neg (by simp only [strOfNums_size, ByteArray.size_append, List.length_cons, List.length_nil, List.length_append, emp]; omega), hatchwayref02_Big.l0, if_pos (by simp only [strOfNums_size, ByteArray.size_append, List.length_cons, List.length_nil, List.length_append, emp]; omega), if_pos (by simp only [strOfNums_size, ByteArray.size_append, List.length_cons, List.length_nil, List.length_append, emp]; omega), ← hz, append_str, hatchwayref02_Big.l0, if_neg (by simp only [strOfNums_size, ByteArray.size_append, List.length_cons, List.length_nil, List.length_append, emp]; omega), hq]
      rfl
    · have hL : hatchwayref02_Least.l0 3 n (⟨#[]⟩ : ByteArray) = some (strOfNums [n / 256] ++ (strOfNums [n % 256] ++ (⟨#[]⟩ : ByteArray))) := by
        rw [hatchwayref02_Least.l0, if_pos (by omega), hm, Option.bind_some, if_pos (by simp only [strOfNums_size, ByteArray.size_append, List.length_cons, List.length_nil, List.length_append, emp]; omega), hu, hatchwayref02_Least.l0, if_pos (by omega), hm2, Option.bind_some, if_pos (by simp only [strOfNums_size, ByteArray.size_append, List.length_cons, List.length_nil, List.length_append, emp]; omega), hu2, hatchwayref02_Least.l0, if_neg (by decide)]
      have e : strOfNums [n / 256] ++ (strOfNums [n % 256] ++ (⟨#[]⟩ : ByteArray)) = strOfNums [n / 256, n % 256] := by
        apply bytes_inj
        rw [bytes_append, bytes_append, bytes_str (InByte.cons (x := n / 256) ⟨by omega, by omega⟩ InByte.nil), bytes_str (InByte.cons (x := n % 256) ⟨by omega, by omega⟩ InByte.nil), bytes_str hin]
        rfl
      rw [hL, e, Option.bind_some, if_neg (by simp only [strOfNums_size, ByteArray.size_append, List.length_cons, List.length_nil, List.length_append, emp]; omega), hatchwayref02_Big.l0, if_neg (by simp only [strOfNums_size, ByteArray.size_append, List.length_cons, List.length_nil, List.length_append, emp]; omega)]

theorem rlittle_f (n : Int) (h0 : 0 ≤ n) (h1 : n < 65536) : hatchwayref12_little.f 3 n = some (strOfNums [n % 256, n / 256]) := by
  have hin : InByte [n / 256, n % 256] := InByte.cons ⟨by omega, by omega⟩ (InByte.cons ⟨by omega, by omega⟩ InByte.nil)
  have hu : IntKind.u64.wrap n = n := by rw [IntKind.wrap_u64]; omega
  unfold hatchwayref12_little.f
  rw [hu, big_f n h0 h1, Option.bind_some]
  have hs : (strOfNums [n / 256, n % 256]).size = 2 := by rw [strOfNums_size]; rfl
  have ht := turned_l0 (strOfNums [n / 256, n % 256]) (by omega) 2 0 (⟨#[]⟩ : ByteArray) (by omega) rfl
  rw [show ((0 : Nat) : Int) = 0 from rfl, List.drop_zero, bytes_str hin] at ht
  unfold hatchwayref02_Turned.f
  rw [ht, Option.bind_some]
  congr 1
theorem rlittle_calls (n : Int) (h0 : 0 ≤ n) (h1 : n < 65536) (w : World) : Calls Try.prog 64 #[.int .i64 n] w fun e w' => e = .returned (.string (strOfNums [n % 256, n / 256])) ∧ Below w.heap.size w w' :=
  hatchwayref12_little.calls 3 n _ w (rlittle_f n h0 h1)

set_option maxRecDepth 100000 in
set_option maxHeartbeats 1000000 in
theorem bound_calls (n : Nat) (hn : n ≤ 1000000) (w : World) : Calls Try.prog 32 #[.int .i64 n] w fun e w' => e = .returned (.int .i64 ((n + n / 32 + 8 : Nat) : Int)) ∧ w = w' := by
  go_enter Try.func32, Try.ntmps32
  go_wp2_with fail
  go_ret
  exact ⟨rfl, rfl⟩

theorem str_cons (l : List Int) (s : ByteArray) : strOfNums l ++ s = strOfNums (l ++ bytesOf s) := by
  rw [← append_str, str_bytes]

set_option maxRecDepth 100000 in
set_option maxHeartbeats 1000000 in
theorem rliteral_calls (s : ByteArray) (hs : s.size ≤ 65536) (w : World) : Calls Try.prog 51 #[.string s] w fun e w' => e = .returned (.string (strOfNums (litB (bytesOf s)))) ∧ Below w.heap.size w w' := by
  have HB := Aside0.mk (Below.refl w.heap.size w)
  have HL := Aside0.mk (bytesOf_length s)
  by_cases h0 : s.size = 0
  · have e : litB (bytesOf s) = [] := by rw [litB, if_pos (by rw [HL.out]; exact h0)]
    have t0 : ((s.size : Int) == 0) = true := beq_iff_eq.2 (by omega)
    rw [e]
    clear e
    go_enter Try.func51, Try.ntmps51
    go_wp2_with fail
    go_ret
    exact ⟨rfl, HB.out⟩
  · have t0 : ((s.size : Int) == 0) = false := beq_eq_false_iff_ne.mpr (by omega)
    by_cases h60 : s.size ≤ 60
    · have t1 : decide ((s.size : Int) ≤ 60) = true := decide_eq_true (by omega)
      obtain ⟨A, hA⟩ : ∃ A : Int, 4 * ((s.size : Int) - 1) = A := ⟨_, rfl⟩
      have hA0 : 0 ≤ A := by omega
      have hA1 : A < 256 := by omega
      have e : strOfNums (litB (bytesOf s)) = strOfNums [A] ++ s := by rw [litB, if_neg (by rw [HL.out]; exact h0), if_pos (by rw [HL.out]; exact h60), HL.out, hA, str_cons]; rfl
      rw [e]
      have hcv := conv1 A
      obtain ⟨q, hq⟩ : ∃ q, strOfNums [A] = q := ⟨_, rfl⟩
      have hqz : q.size + s.size ≤ 9223372036854775807 := by rw [← hq, strOfNums_size]; show 1 + _ ≤ _; omega
      rw [hq] at hcv ⊢
      clear e hq
      go_enter Try.func51, Try.ntmps51
      go_wp2_with fail
      go_ret
      exact ⟨rfl, HB.out.alloc (Nat.le_refl _) _⟩
    · have t1 : decide ((s.size : Int) ≤ 60) = false := decide_eq_false (by omega)
      obtain ⟨A, hA⟩ : ∃ A : Int, (s.size : Int) - 1 = A := ⟨_, rfl⟩
      by_cases h256 : s.size ≤ 256
      · have t2 : decide ((s.size : Int) ≤ 256) = true := decide_eq_true (by omega)
        have hA0 : 0 ≤ A := by omega
        have hA1 : A < 256 := by omega
        have e : strOfNums (litB (bytesOf s)) = strOfNums [240, A] ++ s := by rw [litB, if_neg (by rw [HL.out]; exact h0), if_neg (by rw [HL.out]; exact h60), if_pos (by rw [HL.out]; exact h256), HL.out, hA, str_cons]; rfl
        rw [e]
        have hcv := conv2 240 A
        obtain ⟨q, hq⟩ : ∃ q, strOfNums [240, A] = q := ⟨_, rfl⟩
        have hqz : q.size + s.size ≤ 9223372036854775807 := by rw [← hq, strOfNums_size]; show 2 + _ ≤ _; omega
        rw [hq] at hcv ⊢
        clear e hq
        go_enter Try.func51, Try.ntmps51
        go_wp2_with fail
        go_ret
        exact ⟨rfl, HB.out.alloc (Nat.le_refl _) _⟩
      · have t2 : decide ((s.size : Int) ≤ 256) = false := decide_eq_false (by omega)
        have hA0 : 0 ≤ A := by omega
        have hA1 : A < 65536 := by omega
        have e : strOfNums (litB (bytesOf s)) = (⟨#[244]⟩ : ByteArray) ++ strOfNums [A % 256, A / 256] ++ s := by
          rw [litB, if_neg (by rw [HL.out]; exact h0), if_neg (by rw [HL.out]; exact h60), if_neg (by rw [HL.out]; exact h256), HL.out, hA, show (⟨#[244]⟩ : ByteArray) = strOfNums [244] from rfl, append_str, str_cons]
          rfl
        rw [e]
        have hli := rlittle_calls A hA0 hA1 w
        obtain ⟨q, hq⟩ : ∃ q, strOfNums [A % 256, A / 256] = q := ⟨_, rfl⟩
        have hqz : (⟨#[244]⟩ : ByteArray).size + q.size ≤ 9223372036854775807 := by rw [← hq, strOfNums_size]; simp only [List.length_cons, List.length_nil]; decide
        have hqz2 : ((⟨#[244]⟩ : ByteArray) ++ q).size + s.size ≤ 9223372036854775807 := by rw [ByteArray.size_append, ← hq, strOfNums_size]; show 1 + 2 + _ ≤ _; omega
        rw [hq] at hli ⊢
        have HLI := Aside0.mk hli
        clear e hq hli
        go_enter Try.func51, Try.ntmps51
        go_wp2_with fail
        refine HLI.out.mono ?_
        rintro e w1 ⟨rfl, hb⟩
        have HB1 := Aside0.mk hb
        clear hb
        go_wp2_with fail
        go_ret
        exact ⟨rfl, HB1.out⟩

set_option maxRecDepth 100000 in
set_option maxHeartbeats 2000000 in
theorem rcopied_calls (n b : Int) (hn0 : 4 ≤ n) (hn1 : n ≤ 64) (hk0 : 1 ≤ b) (hk1 : b ≤ 65535) (w : World) : Calls Try.prog 52 #[.int .i64 n, .int .i64 b] w fun e w' => e = .returned (.string (strOfNums (cpB n b))) ∧ Below w.heap.size w w' := by
  have HB := Aside0.mk (Below.refl w.heap.size w)
  by_cases hc : n ≤ 11 ∧ b < 2048
  · have t1 : decide (n ≤ 11) = true := decide_eq_true hc.1
    have t2 : decide (b < 2048) = true := decide_eq_true hc.2
    obtain ⟨V, hV⟩ : ∃ V : Int, 1 + 4 * (n - 4) + 32 * (b / 256) = V := ⟨_, rfl⟩
    obtain ⟨Z, hZ⟩ : ∃ Z : Int, b % 256 = Z := ⟨_, rfl⟩
    have hV0 : 0 ≤ V := by omega
    have hV2 : V < 256 := by omega
    have hZ0 : 0 ≤ Z := by omega
    have hZ1 : Z < 256 := by omega
    have e : cpB n b = [V, Z] := by rw [cpB, if_pos hc, hZ, hV]
    rw [e]
    have hcv := conv2 V Z
    clear e
    go_enter Try.func52, Try.ntmps52
    go_wp2_with fail
    go_ret
    exact ⟨rfl, HB.out.alloc (Nat.le_refl _) _⟩
  · have ht : decide (n ≤ 11) = false ∨ (decide (n ≤ 11) = true ∧ decide (b < 2048) = false) := by
      by_cases h1 : n ≤ 11
      · exact .inr ⟨decide_eq_true h1, decide_eq_false (fun h2 => hc ⟨h1, h2⟩)⟩
      · exact .inl (decide_eq_false h1)
    obtain ⟨N1, hN1⟩ : ∃ N1 : Int, n - 1 = N1 := ⟨_, rfl⟩
    obtain ⟨N2, hN2⟩ : ∃ N2 : Int, 4 * N1 = N2 := ⟨_, rfl⟩
    obtain ⟨V, hV'⟩ : ∃ V : Int, 2 + N2 = V := ⟨_, rfl⟩
    have hV : 2 + 4 * (n - 1) = V := by omega
    have w1 : IntKind.i64.wrap (n - 1) = N1 := by rw [hN1]; exact i64_id (by omega) (by omega)
    have w2 : IntKind.i64.wrap (4 * N1) = N2 := by rw [hN2]; exact i64_id (by omega) (by omega)
    have w3 : IntKind.i64.wrap (2 + N2) = V := by rw [hV']; exact i64_id (by omega) (by omega)
    have w4 : IntKind.u8.wrap V = V := by rw [IntKind.wrap_u8]; omega
    have hV0 : 0 ≤ V := by omega
    have hV2 : V < 256 := by omega
    have e : strOfNums (cpB n b) = strOfNums [V] ++ strOfNums [b % 256, b / 256] := by rw [append_str, cpB, if_neg hc, hV]; rfl
    rw [e]
    have hcv := conv1 V
    have hcw := conv1d V
    have hcb := @conv1b V
    have hli := fun W => rlittle_calls b (by omega) (by omega) W
    obtain ⟨q, hq⟩ : ∃ q, strOfNums [V] = q := ⟨_, rfl⟩
    obtain ⟨r, hr⟩ : ∃ r, strOfNums [b % 256, b / 256] = r := ⟨_, rfl⟩
    have hsz : q.size + r.size ≤ 9223372036854775807 := by rw [← hq, ← hr, strOfNums_size, strOfNums_size]; simp only [List.length_cons, List.length_nil]; decide
    rw [hq] at hcv hcw hcb ⊢
    rw [hr] at hli ⊢
    have HI := Aside0.mk hli
    have HCB := Aside0.mk hcb
    clear e hq hr hli hcb hV hN1 hN2 hV'
    rcases ht with t1 | ⟨t1, t2⟩
    all_goals
      go_enter Try.func52, Try.ntmps52
      go_wp2_with fail
      go_region_with (go_at_call 64; refine (HI.out _).mono ?_; rintro e w4 ⟨rfl, hb⟩; try (have hc4 := HCB.out _ hb); have HB4 : Aside0 (Below w.heap.size w w4) := ⟨below_step (by repeat (first | (with_reducible first | exact HB.out | apply below_alloc | apply pw_below_drewN | apply below_drew1) | exact HB.out)) hb⟩; clear hb)
      all_goals
        go_wp2_with fail
        go_ret
        exact ⟨rfl, by repeat (first | (with_reducible first | exact HB4.out | exact below_step HB.out.drew hb | apply below_alloc | apply pw_below_drewN | apply below_drew1) | exact HB4.out)⟩
end Go.Proofs.Ytpceignbgnekmaa.Sq

/- The document's Pack, by a contract. -/
namespace Go.Proofs.Ytpceignbgnekmaa.Sq
open Go.RowKit Go.Proofs.YtpceignbgnekmaaW.PrintWords Go.Proofs.Ytpceignbgnekmaa.By Go.Proofs.Ytpceignbgnekmaa.Cur Go.Proofs.Ytpceignbgnekmaa.Sn Go.Proofs.Ytpceignbgnekmaa.Leb

/-- the nearest place below m that matches i's bytes -/
def nearM (s : ByteArray) (i : Nat) : Nat → Option Nat
  | 0 => none
  | j + 1 => if 4 ≤ mt s j i then some j else nearM s i j
theorem nearM_eq (s : ByteArray) (i : Nat) : ∀ m, m ≤ i → nearM s i m = if i + 4 ≤ s.size then last4 s i m else none
  | 0, _ => by simp [nearM, last4]
  | m + 1, h => by
    have ih := nearM_eq s i m (by omega)
    have h4 := mt_four (s := s) (i := i) (j := m) (by omega)
    unfold nearM
    by_cases h1 : i + 4 ≤ s.size
    · rw [if_pos h1] at ih ⊢
      unfold last4
      by_cases h2 : four s m i = true
      · rw [if_pos (h4.2 ⟨h1, h2⟩), if_pos ⟨by omega, h2⟩]
      · rw [if_neg (fun g => h2 (h4.1 g).2), if_neg (fun g => h2 g.2), ih]
    · rw [if_neg h1] at ih ⊢
      rw [if_neg (fun g => h1 (h4.1 g).1), ih]
theorem stepJ_near (s : ByteArray) (i : Nat) : stepJ s i = nearM s i i := by
  rw [nearM_eq s i i (Nat.le_refl _)]
  rfl
theorem ext_next (s : ByteArray) (p i : Nat) (hp : p ≤ i) (hi : i < s.size) : s.extract p i ++ s.extract i (i + 1) = s.extract p (i + 1) := by
  apply bytes_inj
  rw [bytes_append, bytes_extract, bytes_extract, bytes_extract]
  have hl : i < (bytesOf s).length := by rw [bytesOf_length]; exact hi
  rw [List.take_succ_eq_append_getElem hl, List.drop_append_of_le_length (by rw [List.length_take]; omega), List.drop_append_of_le_length (by rw [List.length_take]; omega), List.drop_of_length_le (i := i) (by rw [List.length_take]; omega)]
  rfl

set_option maxRecDepth 100000 in
set_option maxHeartbeats 4000000 in
theorem rpack_calls (s : ByteArray) (hs : s.size ≤ 65536) (w : World) :
    Calls Try.prog 31 #[.string s] w fun e w' => e = .returned (.string (strOfNums (packF s))) ∧ Below w.heap.size w w' := by
  obtain ⟨z, hz⟩ : ∃ z, strOfNums (putL 9 (s.size : Int)) = z := ⟨_, rfl⟩
  have hzl : (putL 9 (s.size : Int)).length ≤ 10 := putL_len 9 _
  have hp10 : (s.size : Int) < 128 ^ (9 + 1) := by
    have : (128 : Int) ^ (9 + 1) = 1180591620717411303424 := by decide
    omega
  have hput := LebPut.put 9 (s.size : Int) w (by omega) (by omega) hp10 (by omega)
  rw [hz] at hput
  obtain ⟨R, hR⟩ : ∃ R, packF s = R := ⟨_, rfl⟩
  rw [hR]
  unfold packF at hR
  have HPUT := Aside0.mk hput
  have HRR := Aside0.mk hR
  have HZ := Aside0.mk hz
  clear hput hR hz hp10
  have h00 : s.extract 0 0 = (⟨#[]⟩ : ByteArray) := by apply bytes_inj; rw [bytes_extract]; rfl
  go_enter Try.func31, Try.ntmps31
  go_wp2_with fail
  refine HPUT.out.mono ?_
  rintro e w1 ⟨rfl, hb1⟩
  have HB1 := Aside0.mk hb1
  clear hb1 HPUT
  go_wp2_with fail
  go_loopg [3, 4, 5] (s.size + 1) (fun kq v3 v4 v5 wr => ∃ (p i : Nat) (xs : List Int) (o q : ByteArray), v3 = .string o ∧ v4 = .string q ∧ v5 = .int .i64 i ∧ p ≤ i ∧ i ≤ s.size ∧ xs.length ≤ 10 + 2 * p ∧ o.size = xs.length ∧ q.size ≤ i ∧ Aside0 (o = strOfNums xs) ∧ Aside0 (q = s.extract p i) ∧ Aside0 (s.size - i < kq) ∧ Aside0 (packL s kq i p xs = R) ∧ Aside0 (Below w.heap.size w wr))
  case atStart => exact ⟨0, 0, putL 9 (s.size : Int), z, ⟨#[]⟩, rfl, rfl, by go_num, by omega, by omega, by omega, by rw [← HZ.out, strOfNums_size], Nat.le_refl _, ⟨HZ.out.symm⟩, ⟨h00.symm⟩, ⟨by omega⟩, HRR, HB1⟩
  case round =>
    clear HRR HZ HB1 h00
    obtain ⟨p, i, xs, o, q, rfl, rfl, rfl, hpi, his, hxl, hol, hql, HO, HQ, HK, HE, HB⟩ := hrel
    by_cases hlt : i < s.size
    · have hltb : decide (i < s.size) = true := decide_eq_true hlt
      have hk1 := HK.out
      obtain ⟨gr, rfl⟩ : ∃ gr, gk = gr + 1 := ⟨gk - 1, by omega⟩
      have hE := HE.out
      rw [packL, if_pos hlt, stepJ_near] at hE
      have HEE := Aside0.mk hE
      clear hE HE
      go_wp2_with fail
      go_loopg [6] i (fun kj v6 wj => ∃ (jj : Nat), v6 = .int .i64 ((jj : Int) - 1) ∧ jj ≤ i ∧ Aside0 (kj = jj) ∧ Aside0 (nearM s i i = nearM s i jj) ∧ Aside0 (Below w.heap.size w wj))
      case atStart => exact ⟨i, by go_num, Nat.le_refl _, ⟨rfl⟩, ⟨rfl⟩, HB⟩
      case round =>
        clear HB
        obtain ⟨jj, rfl, hji, HKJ, HN, HBJ⟩ := hrel
        rcases jj with _ | j
        · have hjb : decide (0 ≤ ((0 : Nat) : Int) - 1) = false := by decide
          obtain ⟨x1, hx1⟩ : ∃ x1, s.extract i (i + 1) = x1 := ⟨_, rfl⟩
          have hsl := fun W => run_slice_string (P := Try.prog) (w := W) 9 s .i64 .i64 (i : Int) ((i : Int) + 1) Try.underlying9 (by omega) (by omega) (by omega)
          rw [show ((i : Int) + 1).toNat = i + 1 by omega, Int.toNat_natCast, hx1] at hsl
          have hx1z : x1.size = 1 := by rw [← hx1, ByteArray.size_extract]; omega
          have hq1 : q.size + x1.size ≤ 9223372036854775807 := by omega
          have hnx : q ++ x1 = s.extract p (i + 1) := by rw [HQ.out, ← hx1]; exact ext_next s p i hpi hlt
          have hnz : (q ++ x1).size ≤ i + 1 := by rw [ByteArray.size_append]; omega
          have hE2 : packL s gr (i + 1) p xs = R := by
            have h1 := HEE.out
            rw [HN.out] at h1
            exact h1
          have HE2 := Aside0.mk hE2
          have HNX := Aside0.mk hnx
          clear hE2 hnx hx1 hx1z HEE HN
          go_wp2_with fail
          go_roundg gr
          case measure => omega
          case rel => exact ⟨p, i + 1, xs, o, q ++ x1, rfl, rfl, by go_num, by omega, by omega, hxl, hol, hnz, HO, HNX, ⟨by omega⟩, HE2, HBJ⟩
        · have hj1 : (((j + 1 : Nat) : Int) - 1) = (j : Int) := by omega
          rw [hj1]
          have hj0 : decide (0 ≤ (j : Int)) = true := decide_eq_true (by omega)
          have hma := fun W => refmatch_calls s j i hs (by omega) his W
          by_cases h4 : 4 ≤ mt s j i
          · have hNj : nearM s i i = some j := by rw [HN.out, nearM, if_pos h4]
            have hst : stepJ s i = some j := by rw [stepJ_near]; exact hNj
            obtain ⟨_, _, hm64, hin⟩ := stepJ_some hst
            have hE2 := HEE.out
            rw [hNj] at hE2
            dsimp only at hE2
            obtain ⟨n, hn⟩ : ∃ n, mt s j i = n := ⟨_, rfl⟩
            rw [hn] at hE2 hma h4 hm64 hin
            have t4 : decide ((n : Int) < 4) = false := decide_eq_false (by omega)
            have tj : decide ((j : Int) < 0) = false := decide_eq_false (by omega)
            have hq65 : q.size ≤ 65536 := by omega
            have hli := fun W => rliteral_calls q hq65 W
            have hqb : bytesOf q = seg s p i := by rw [HQ.out]; rfl
            rw [hqb] at hli
            have hcp := fun W => rcopied_calls (n : Int) ((i : Int) - (j : Int)) (by omega) (by omega) (by omega) (by omega) W
            obtain ⟨bk, hbk⟩ : ∃ bk : Int, (i : Int) - (j : Int) = bk := ⟨_, rfl⟩
            have hsgl := seg_len s p i hpi his
            have hlb := litB_len (seg s p i)
            have hcl := cpB_len (n : Int) ((i : Int) - (j : Int))
            obtain ⟨l1, hl1⟩ : ∃ l1, litB (seg s p i) = l1 := ⟨_, rfl⟩
            obtain ⟨c1, hc1⟩ : ∃ c1, cpB (n : Int) ((i : Int) - (j : Int)) = c1 := ⟨_, rfl⟩
            rw [hl1] at hli hE2 hlb
            rw [hc1] at hcp hE2 hcl
            rw [hbk] at hcp
            obtain ⟨ls, hls⟩ : ∃ ls, strOfNums l1 = ls := ⟨_, rfl⟩
            obtain ⟨cs, hcs⟩ : ∃ cs, strOfNums c1 = cs := ⟨_, rfl⟩
            rw [hls] at hli
            rw [hcs] at hcp
            have hlsz : ls.size = l1.length := by rw [← hls, strOfNums_size]
            have hcsz : cs.size = c1.length := by rw [← hcs, strOfNums_size]
            have ha1 : o.size + ls.size ≤ 9223372036854775807 := by omega
            have ha2 : (o ++ ls).size + cs.size ≤ 9223372036854775807 := by rw [ByteArray.size_append]; omega
            have hnew : o ++ ls ++ cs = strOfNums (xs ++ l1 ++ c1) := by rw [HO.out, ← hls, ← hcs, append_str, append_str]
            have hnl : (xs ++ l1 ++ c1).length ≤ 10 + 2 * (i + n) := by rw [List.length_append, List.length_append]; omega
            have hol2 : (o ++ ls ++ cs).size = (xs ++ l1 ++ c1).length := by rw [hnew, strOfNums_size]
            have h00 : (⟨#[]⟩ : ByteArray) = s.extract (i + n) (i + n) := by
              apply bytes_inj
              rw [bytes_extract, List.drop_of_length_le (by rw [List.length_take]; omega)]
              rfl
            have HE2 := Aside0.mk hE2
            have HMA := Aside0.mk hma
            have HLI := Aside0.mk hli
            have HCP := Aside0.mk hcp
            have HNEW := Aside0.mk hnew
            have HNL := Aside0.mk hnl
            have HOL := Aside0.mk hol2
            have H00 := Aside0.mk h00
            have HIN := Aside0.mk hin
            clear hE2 hma hli hcp hnew hnl hol2 h00 hNj hst hqb hsgl hlb hcl hl1 hc1 hls hcs hlsz hcsz HEE HN hn
            go_wp2_with fail
            refine (HMA.out _).mono ?_
            rintro e w2 ⟨rfl, ⟨⟨nd, rfl⟩⟩⟩
            have HB2 : Aside0 (Below w.heap.size w (wr.drewN nd)) := ⟨pw_below_drewN HBJ.out nd⟩
            generalize wr.drewN nd = w2 at HB2 ⊢
            go_wp2_with fail
            refine (HMA.out _).mono ?_
            rintro e w3 ⟨rfl, ⟨⟨nd2, rfl⟩⟩⟩
            have HB3 : Aside0 (Below w.heap.size w (w2.drewN nd2)) := ⟨pw_below_drewN HB2.out nd2⟩
            generalize w2.drewN nd2 = w3 at HB3 ⊢
            clear HB2 HBJ HMA
            go_wp2_with fail
            refine (HLI.out _).mono ?_
            rintro e w4 ⟨rfl, hb4⟩
            have HB4 := Aside0.mk (below_step HB3.out hb4)
            clear hb4 HB3 HLI
            go_wp2_with fail
            refine (HCP.out _).mono ?_
            rintro e w5 ⟨rfl, hb5⟩
            have HB5 := Aside0.mk (below_step HB4.out hb5)
            clear hb5 HB4 HCP
            go_wp2_with fail
            go_roundg gr
            case measure => omega
            case rel => exact ⟨i + n, i + n, xs ++ l1 ++ c1, o ++ ls ++ cs, ⟨#[]⟩, rfl, rfl, by go_num, by omega, HIN.out, HNL.out, HOL.out, Nat.zero_le _, HNEW, H00, ⟨by omega⟩, HE2, HB5⟩
          · have t4 : decide ((mt s j i : Int) < 4) = true := decide_eq_true (by omega)
            have hNj : nearM s i i = nearM s i j := by rw [HN.out, nearM, if_neg h4]
            have HNJ := Aside0.mk hNj
            have HMA := Aside0.mk hma
            clear hNj hma HN HEE
            go_wp2_with fail
            refine (HMA.out _).mono ?_
            rintro e w2 ⟨rfl, ⟨⟨nd, rfl⟩⟩⟩
            go_wp2_with fail
            go_roundg j
            case measure => have := HKJ.out; omega
            case rel => exact ⟨j, by go_num, by omega, ⟨rfl⟩, HNJ, ⟨pw_below_drewN HBJ.out nd⟩⟩
    · obtain rfl : i = s.size := by omega
      have hltb : decide (s.size < s.size) = false := decide_eq_false (Nat.lt_irrefl _)
      have hE : xs ++ litB (seg s p s.size) = R := by
        rw [← HE.out]
        cases gk with
        | zero => rfl
        | succ k => rw [packL, if_neg hlt]
      have hli := fun W => rliteral_calls q (by omega) W
      have hqb : bytesOf q = seg s p s.size := by rw [HQ.out]; rfl
      rw [hqb] at hli
      have hlb := litB_len (seg s p s.size)
      have hsgl := seg_len s p s.size hpi (Nat.le_refl _)
      obtain ⟨ls, hls⟩ : ∃ ls, strOfNums (litB (seg s p s.size)) = ls := ⟨_, rfl⟩
      rw [hls] at hli
      have hlsz : ls.size = (litB (seg s p s.size)).length := by rw [← hls, strOfNums_size]
      have ha1 : o.size + ls.size ≤ 9223372036854775807 := by omega
      have hnew : o ++ ls = strOfNums R := by rw [HO.out, ← hls, append_str, hE]
      have HLI := Aside0.mk hli
      have HNEW := Aside0.mk hnew
      clear hE hli hqb hlb hsgl hls hlsz hnew HE HK HQ HO
      go_wp2_with fail
      refine (HLI.out _).mono ?_
      rintro e w4 ⟨rfl, hb4⟩
      have HB4 := Aside0.mk (below_step HB.out hb4)
      clear hb4
      go_wp2_with fail
      go_ret
      exact ⟨by rw [← HNEW.out]; rfl, HB4.out⟩
end Go.Proofs.Ytpceignbgnekmaa.Sq

/- The law of a packing, walked. -/
namespace Go.Proofs.Ytpceignbgnekmaa.Sq
open Go.RowKit Go.Proofs.YtpceignbgnekmaaW.PrintWords Go.Proofs.Ytpceignbgnekmaa.By Go.Proofs.Ytpceignbgnekmaa.Cur Go.Proofs.Ytpceignbgnekmaa.Sn Go.Proofs.Ytpceignbgnekmaa.Leb

set_option maxRecDepth 100000 in
set_option maxHeartbeats 1000000 in
theorem pack_over (s : ByteArray) (hs : 65536 < s.size) (w : World) : Calls Try.prog 28 #[.string s] w fun e w' => S2 (⟨#[]⟩, 5) e ∧ Below w.heap.size w w' := by
  have hbig : decide (65536 < (s.size : Int)) = true := decide_eq_true (by omega)
  have HB := Aside0.mk (Below.refl w.heap.size w)
  go_enter Try.func28, Try.ntmps28
  go_wp2_with fail
  go_ret2
  exact ⟨rfl, HB.out⟩

theorem putL_len3 (n : Int) (h0 : 0 ≤ n) (h1 : n ≤ 65536) : (putL 9 n).length ≤ 3 := by
  unfold putL
  split
  · unfold putL
    split
    · unfold putL
      split
      · omega
      · simp
    · simp
  · simp
theorem packF_len (s : ByteArray) (hs : s.size ≤ 65536) : (packF s).length ≤ s.size + s.size / 32 + 8 := by
  have h1 := packE_len s (s.size + 1) 0 0 (Nat.le_refl _) (Nat.zero_le _)
  have h2 := putL_len3 (s.size : Int) (by omega) (by omega)
  rw [packF, packL_eq, List.length_append]
  omega

theorem alive_pack : packF ⟨#[97, 98, 97, 98, 97, 98, 97, 98]⟩ = [8, 4, 97, 98, 9, 2] := by decide +kernel

set_option maxRecDepth 100000 in
set_option maxHeartbeats 1000000 in
theorem alive (w : World) : Calls Try.prog 27 #[] w fun e w' => e = .returned (.bool true) ∧ Below w.heap.size w w' := by
  have h := pack_calls ⟨#[97, 98, 97, 98, 97, 98, 97, 98]⟩ (by decide) w
  rw [alive_pack, show strOfNums [8, 4, 97, 98, 9, 2] = (⟨#[8, 4, 97, 98, 9, 2]⟩ : ByteArray) from rfl] at h
  have H := Aside0.mk h
  clear h
  go_enter Try.func27, Try.ntmps27
  go_wp2_with fail
  refine H.out.mono ?_
  rintro e w1 ⟨rfl, hb⟩
  have HB := Aside0.mk hb
  clear hb H
  go_wp2_with fail
  go_ret
  exact ⟨rfl, HB.out⟩

set_option maxRecDepth 100000 in
set_option maxHeartbeats 2000000 in
theorem packs (s : ByteArray) (hs : s.size ≤ 140737488351232) (w : World) : Calls Try.prog 7 #[.string s] w fun e w' => e = .returned (.bool true) ∧ Below w.heap.size w w' := by
  have HB := Aside0.mk (Below.refl w.heap.size w)
  by_cases h5 : 500 < s.size
  · have t1 : decide (500 < (s.size : Int)) = true := decide_eq_true (by omega)
    by_cases h6 : s.size ≤ 65536
    · have t2 : decide ((s.size : Int) ≤ 65536) = true := decide_eq_true (by omega)
      go_enter Try.func7, Try.ntmps7
      go_wp2_with fail
      refine (alive _).mono ?_
      rintro e w1 ⟨rfl, hb⟩
      have HB1 := Aside0.mk (below_step HB.out hb)
      clear hb HB
      go_wp2_with fail
      go_ret
      exact ⟨rfl, HB1.out⟩
    · have t2 : decide ((s.size : Int) ≤ 65536) = false := decide_eq_false (by omega)
      have t3 : decide (65536 < (s.size : Int)) = true := decide_eq_true (by omega)
      have HP := Aside0.mk (pack_over s (by omega))
      go_enter Try.func7, Try.ntmps7
      go_wp2_with fail
      refine (alive _).mono ?_
      rintro e w1 ⟨rfl, hb⟩
      have HB1 := Aside0.mk (below_step HB.out hb)
      clear hb HB
      go_wp2_with fail
      refine (HP.out _).mono ?_
      rintro e w2 ⟨rfl, hb⟩
      have HB2 := Aside0.mk (below_step HB1.out hb)
      clear hb HB1
      go_wp2_with fail
      go_ret
      exact ⟨rfl, HB2.out⟩
  · have t1 : decide (500 < (s.size : Int)) = false := decide_eq_false (by omega)
    have t3 : decide (65536 < (s.size : Int)) = false := decide_eq_false (by omega)
    have hl := packF_len s (by omega)
    obtain ⟨pk, hpk⟩ : ∃ pk, strOfNums (packF s) = pk := ⟨_, rfl⟩
    have hpz : pk.size = (packF s).length := by rw [← hpk, strOfNums_size]
    have ho := out_pack s (by omega) (s.size : Int) (Int.le_refl _)
    have h1 := pack_calls s (by omega)
    have h4 := rpack_calls s (by omega)
    rw [hpk] at ho h1 h4
    have h2 := unpack_nil pk (by omega) (s.size : Int)
    have h3 := refunpack_calls pk (by omega) (s.size : Int)
    rw [ho] at h2 h3
    obtain ⟨bd, hbd⟩ : ∃ bd : Int, ((s.size + s.size / 32 + 8 : Nat) : Int) = bd := ⟨_, rfl⟩
    have h5 := bound_calls s.size (by omega)
    rw [hbd] at h5
    have t4 : decide ((pk.size : Int) ≤ bd) = true := decide_eq_true (by omega)
    have H1 := Aside0.mk h1
    have H2 := Aside0.mk h2
    have H3 := Aside0.mk h3
    have H4 := Aside0.mk h4
    have H5 := Aside0.mk h5
    clear h1 h2 h3 h4 h5 ho hpk hl hpz hbd
    go_enter Try.func7, Try.ntmps7
    go_wp2_with fail
    refine (alive _).mono ?_
    rintro e w1 ⟨rfl, hb⟩
    have HB1 := Aside0.mk (below_step HB.out hb)
    clear hb HB
    go_wp2_with fail
    refine (H1.out _).mono ?_
    rintro e w2 ⟨rfl, hb⟩
    have HB2 := Aside0.mk (below_step HB1.out hb)
    clear hb HB1
    go_wp2_with fail
    refine (H2.out _).mono ?_
    rintro e w3 ⟨rfl, hb⟩
    have HB3 := Aside0.mk (below_step HB2.out hb)
    clear hb HB2
    go_wp2_with fail
    refine (H3.out _).mono ?_
    rintro e w4 ⟨rfl, hb⟩
    have HB4 := Aside0.mk (below_step HB3.out hb)
    clear hb HB3
    go_wp2_with fail
    refine (H4.out _).mono ?_
    rintro e w5 ⟨rfl, hb⟩
    have HB5 := Aside0.mk (below_step HB4.out hb)
    clear hb HB4
    go_wp2_with fail
    refine (H5.out _).mono ?_
    rintro e w6 ⟨rfl, rfl⟩
    go_wp2_with fail
    go_ret
    exact ⟨rfl, HB5.out⟩
end Go.Proofs.Ytpceignbgnekmaa.Sq
