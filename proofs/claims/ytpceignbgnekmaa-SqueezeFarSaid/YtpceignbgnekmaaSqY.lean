/- SqG, SqH, SqI made one text. -/
import Derived.Test.YtpceignbgnekmaaSqX
import Derived.Test.YtpceignbgnekmaaSqM
import Derived.Test.YtpceignbgnekmaaLeb
import Derived.Test.YtpceignbgnekmaaSnN
/- How long a match is, in plain words; both walks tell it. -/
namespace Go.Proofs.Ytpceignbgnekmaa.Sq
open Go.RowKit Go.Proofs.YtpceignbgnekmaaW.PrintWords Go.Proofs.YtpceignbgnekmaaW.PrintMore Go.Proofs.Ytpceignbgnekmaa.By Go.Proofs.Ytpceignbgnekmaa.Md Go.Proofs.Ytpceignbgnekmaa.Cur Go.Proofs.Ytpceignbgnekmaa.Sn Go.Proofs.Ytpceignbgnekmaa.SqM

/-- so many bytes more that two places have alike -/
def mtc (s : ByteArray) (i j : Nat) : Nat → Nat → Nat
  | 0, n => n
  | k + 1, n => if i + n < s.size ∧ j + n < s.size ∧ bt s (i + n : Nat) = bt s (j + n : Nat) then mtc s i j k (n + 1) else n
def mt (s : ByteArray) (i j : Nat) : Nat := mtc s i j 64 0

theorem match_l0 (s : ByteArray) (i j : Nat) (hs : s.size ≤ 65536) (hi : i ≤ s.size) (hj : j ≤ s.size) : ∀ (k n : Nat), n + k = 64 → squeeze_Match.l0 (k + 1) s i j n = some ((mtc s i j k n : Nat) : Int)
  | 0, n, h => by
    obtain rfl : n = 64 := by omega
    rw [squeeze_Match.l0, if_neg (by decide), mtc]
  | k + 1, n, h => by
    have ih := match_l0 s i j hs hi hj k (n + 1) (by omega)
    have e1 : wrap64 (mx i j + n) = ((max i j + n : Nat) : Int) := by unfold mx wrap64; split <;> omega
    have e2 : wrap64 ((i : Int) + n) = ((i + n : Nat) : Int) := by unfold wrap64; omega
    have e3 : wrap64 ((j : Int) + n) = ((j + n : Nat) : Int) := by unfold wrap64; omega
    have e4 : wrap64 ((n : Int) + 1) = ((n + 1 : Nat) : Int) := by unfold wrap64; omega
    rw [squeeze_Match.l0, if_pos (by omega), e1, e2, e3, e4, mtc]
    by_cases h1 : max i j + n < s.size
    · rw [if_pos (by omega), if_pos (by omega), if_pos (by omega), if_pos (by omega), if_pos (by omega)]
      by_cases h2 : bt s (i + n : Nat) = bt s (j + n : Nat)
      · rw [if_pos h2, if_pos ⟨by omega, by omega, h2⟩, ih]
      · rw [if_neg h2, if_neg (fun g => h2 g.2.2)]
    · rw [if_neg (by omega), if_neg (by omega)]
theorem match_calls (s : ByteArray) (i j : Nat) (hs : s.size ≤ 65536) (hi : i ≤ s.size) (hj : j ≤ s.size) (w : World) :
    Calls Try.prog 43 #[.string s, .int .i64 i, .int .i64 j] w fun e w' => e = .returned (.int .i64 (mt s i j : Nat)) ∧ Below w.heap.size w w' := by
  refine squeeze_Match.calls 66 s i j _ w ?_
  have h := match_l0 s i j hs hi hj 64 0 rfl
  unfold squeeze_Match.f
  rw [if_neg (by unfold mn; split <;> omega), squeeze_Match.j0, if_neg (by simp; unfold mx; split <;> omega)]
  exact h

theorem refmatch_l0 (s : ByteArray) (i j : Nat) (hs : s.size ≤ 65536) (hi : i ≤ s.size) (hj : j ≤ s.size) : ∀ (k n : Nat), n + k = 64 → hatchwayref12_Match.l0 (k + 1) s i j n = some ((mtc s i j k n : Nat) : Int)
  | 0, n, h => by
    obtain rfl : n = 64 := by omega
    rw [hatchwayref12_Match.l0, if_neg (by decide), mtc]
  | k + 1, n, h => by
    have ih := refmatch_l0 s i j hs hi hj k (n + 1) (by omega)
    have e2 : wrap64 ((i : Int) + n) = ((i + n : Nat) : Int) := by unfold wrap64; omega
    have e3 : wrap64 ((j : Int) + n) = ((j + n : Nat) : Int) := by unfold wrap64; omega
    have e4 : wrap64 ((n : Int) + 1) = ((n + 1 : Nat) : Int) := by unfold wrap64; omega
    rw [hatchwayref12_Match.l0, if_pos (by omega), e2, e3, e4, mtc]
    by_cases h1 : i + n < s.size
    · rw [if_pos (by omega)]
      by_cases h3 : j + n < s.size
      · rw [if_pos (by omega), if_pos (by omega), if_pos (by omega)]
        by_cases h2 : bt s (i + n : Nat) = bt s (j + n : Nat)
        · rw [if_pos h2, if_pos ⟨h1, h3, h2⟩, ih]
        · rw [if_neg h2, if_neg (fun g => h2 g.2.2)]
      · rw [if_neg (by omega), if_neg (fun g => h3 g.2.1)]
    · rw [if_neg (by omega), if_neg (fun g => h1 g.1)]
theorem refmatch_calls (s : ByteArray) (i j : Nat) (hs : s.size ≤ 65536) (hi : i ≤ s.size) (hj : j ≤ s.size) (w : World) :
    Calls Try.prog 50 #[.string s, .int .i64 i, .int .i64 j] w fun e w' => e = .returned (.int .i64 (mt s i j : Nat)) ∧ Drawn0 w w' :=
  hatchwayref12_Match.calls 65 s i j _ w (refmatch_l0 s i j hs hi hj 64 0 rfl)

theorem mtc_le (s : ByteArray) (i j : Nat) : ∀ (k n : Nat), n ≤ mtc s i j k n ∧ mtc s i j k n ≤ n + k
  | 0, n => by simp [mtc]
  | k + 1, n => by
    unfold mtc
    split
    · have := mtc_le s i j k (n + 1); omega
    · omega
/-- what a match says of the bytes -/
theorem mtc_same (s : ByteArray) (i j : Nat) : ∀ (k n t : Nat), n ≤ t → t < mtc s i j k n → i + t < s.size ∧ j + t < s.size ∧ bt s (i + t : Nat) = bt s (j + t : Nat)
  | 0, n, t, h1, h2 => by simp [mtc] at h2; omega
  | k + 1, n, t, h1, h2 => by
    unfold mtc at h2
    split at h2
    · rename_i h
      by_cases ht : t = n
      · subst ht; exact h
      · exact mtc_same s i j k (n + 1) t (by omega) h2
    · omega
theorem mt_le (s : ByteArray) (i j : Nat) : mt s i j ≤ 64 := by have := mtc_le s i j 64 0; unfold mt; omega
theorem mt_same {s : ByteArray} {i j t : Nat} (h : t < mt s i j) : i + t < s.size ∧ j + t < s.size ∧ bt s (i + t : Nat) = bt s (j + t : Nat) := mtc_same s i j 64 0 t (Nat.zero_le _) h
/-- four bytes alike: a match of four, and the other way -/
theorem mt_four {s : ByteArray} {i j : Nat} (hj : j < i) : 4 ≤ mt s j i ↔ (i + 4 ≤ s.size ∧ four s j i = true) := by
  constructor
  · intro h
    have h0 := mt_same (s := s) (i := j) (j := i) (t := 0) (by omega)
    have h1 := mt_same (s := s) (i := j) (j := i) (t := 1) (by omega)
    have h2 := mt_same (s := s) (i := j) (j := i) (t := 2) (by omega)
    have h3 := mt_same (s := s) (i := j) (j := i) (t := 3) (by omega)
    refine ⟨by omega, ?_⟩
    simp only [Nat.add_zero] at h0
    simp only [four, Bool.and_eq_true, beq_iff_eq]
    exact ⟨⟨⟨h0.2.2, h1.2.2⟩, h2.2.2⟩, h3.2.2⟩
  · rintro ⟨h, hf⟩
    simp only [four, Bool.and_eq_true, beq_iff_eq] at hf
    obtain ⟨⟨⟨f0, f1⟩, f2⟩, f3⟩ := hf
    unfold mt
    rw [show (64 : Nat) = 60 + 1 + 1 + 1 + 1 from rfl, mtc, if_pos ⟨by omega, by omega, by simpa using f0⟩, mtc, if_pos ⟨by omega, by omega, f1⟩, mtc, if_pos ⟨by omega, by omega, f2⟩, mtc, if_pos ⟨by omega, by omega, f3⟩]
    exact (mtc_le s j i 60 4).1
end Go.Proofs.Ytpceignbgnekmaa.Sq

/- squeeze.Pack, by a contract. -/
namespace Go.Proofs.Ytpceignbgnekmaa.Sq
open Go.RowKit Go.Proofs.YtpceignbgnekmaaW.PrintWords Go.Proofs.Ytpceignbgnekmaa.By Go.Proofs.Ytpceignbgnekmaa.Md Go.Proofs.Ytpceignbgnekmaa.Cur Go.Proofs.Ytpceignbgnekmaa.Sn Go.Proofs.Ytpceignbgnekmaa.Leb

/-- the place that is copied from at i -/
def stepJ (s : ByteArray) (i : Nat) : Option Nat := if i + 4 ≤ s.size then last4 s i i else none
def seg (s : ByteArray) (p i : Nat) : List Int := bytesOf (s.extract p i)
/-- element by element: the place, the first that is pending -/
def packL (s : ByteArray) : Nat → Nat → Nat → List Int → List Int
  | 0, _, p, out => out ++ litB (seg s p s.size)
  | k + 1, i, p, out =>
    if i < s.size then
      match stepJ s i with
      | none => packL s k (i + 1) p out
      | some j => packL s k (i + mt s j i) (i + mt s j i) (out ++ litB (seg s p i) ++ cpB (mt s j i) ((i : Int) - j))
    else out ++ litB (seg s p s.size)
def packF (s : ByteArray) : List Int := packL s (s.size + 1) 0 0 (putL 9 s.size)

theorem last4_some {s : ByteArray} {i j : Nat} : ∀ {m : Nat}, last4 s i m = some j → j < m ∧ four s j i = true
  | 0, h => by simp [last4] at h
  | m + 1, h => by
    unfold last4 at h
    split at h
    · rename_i hc
      obtain rfl : m = j := by simpa using h
      exact ⟨by omega, hc.2⟩
    · have := last4_some h
      exact ⟨by omega, this.2⟩
theorem stepJ_some {s : ByteArray} {i j : Nat} (h : stepJ s i = some j) : j < i ∧ 4 ≤ mt s j i ∧ mt s j i ≤ 64 ∧ i + mt s j i ≤ s.size := by
  unfold stepJ at h
  split at h
  · rename_i h4
    obtain ⟨h1, h2⟩ := last4_some h
    have hm := (mt_four h1).2 ⟨h4, h2⟩
    have hl := mt_same (s := s) (i := j) (j := i) (t := mt s j i - 1) (by omega)
    exact ⟨h1, hm, mt_le s j i, by omega⟩
  · cases h
theorem findF_eq (s : ByteArray) (i : Nat) : findF s i = match stepJ s i with | some j => (j : Int) | none => -1 := by
  unfold findF stepJ
  by_cases h : i + 4 ≤ s.size
  · rw [if_pos h, if_pos h]
    cases last4 s i i <;> rfl
  · rw [if_neg h, if_neg h]
theorem litB_len (l : List Int) : (litB l).length ≤ l.length + 3 := by
  unfold litB
  split
  · simp
  · split
    · simp
    · split <;> simp
theorem cpB_len (n b : Int) : (cpB n b).length ≤ 3 := by unfold cpB; split <;> simp
theorem seg_len (s : ByteArray) (p i : Nat) (hp : p ≤ i) (hi : i ≤ s.size) : (seg s p i).length = i - p := by
  unfold seg
  rw [bytesOf_length, ByteArray.size_extract]
  omega

set_option maxRecDepth 100000 in
set_option maxHeartbeats 4000000 in
theorem pack_calls (s : ByteArray) (hs : s.size ≤ 65536) (w : World) :
    Calls Try.prog 28 #[.string s] w fun e w' => S2 (strOfNums (packF s), 0) e ∧ Below w.heap.size w w' := by
  have hbig : decide (65536 < (s.size : Int)) = false := decide_eq_false (by omega)
  obtain ⟨z, hz⟩ : ∃ z, strOfNums (putL 9 (s.size : Int)) = z := ⟨_, rfl⟩
  have hzb : bytesOf z = putL 9 (s.size : Int) := by
    rw [← hz]
    exact bytes_str (putL_in 9 _ (by omega) (by have : (128 : Int) ^ (9 + 1) = 1180591620717411303424 := by decide
                                                omega))
  have hzl : z.size ≤ 10 := by rw [size_eq, hzb]; exact putL_len 9 _
  have hput := Leb.put_calls (s.size : Int) (by omega) (by omega) w
  rw [hz] at hput
  have kb := fun W => print_bytes (P := Try.prog) 9 32 5 Try.underlying9 Try.underlying32 Try.underlying5 z W
  obtain ⟨R, hR⟩ : ∃ R, packF s = R := ⟨_, rfl⟩
  rw [hR]
  unfold packF at hR
  rw [← hzb] at hR
  have hmm := @run_makeMap Try.prog
  obtain ⟨B, hB⟩ : ∃ B, w.heap.size = B := ⟨_, rfl⟩
  rw [hB] at hput ⊢
  have hBw : B ≤ w.heap.size := Nat.le_of_eq hB.symm
  clear hB
  have HPUT := Aside0.mk hput
  have HRR := Aside0.mk hR
  have HZL := Aside0.mk hzl
  clear hz hzb hput hR hzl
  go_enter Try.func28, Try.ntmps28
  go_wp2_with fail
  refine HPUT.out.mono ?_
  rintro e w1 ⟨rfl, hb1⟩
  have HB1 := Aside0.mk hb1
  have hz1 : B ≤ w1.heap.size := Nat.le_trans hBw hb1.size
  clear hb1 HPUT
  have hRX := RX.made w1 B z hz1 (by have := HZL.out; omega)
  have hBW : B ≤ (Lib.bytesWorld w1 5 z).heap.size := by rw [Lib.bytesWorld_size]; omega
  have HBW := Aside0.mk (bytes_below HB1.out hz1 5 z)
  have HRX := Aside0.mk hRX
  clear hRX
  go_wp2_with fail
  obtain ⟨g0, hg0⟩ : ∃ g0, w1.heap.size = g0 := ⟨_, rfl⟩
  obtain ⟨cap0, hcap0⟩ : ∃ cap0, grownCap w1 z.size 0 5 = cap0 := ⟨_, rfl⟩
  rw [hg0, hcap0] at HRX
  have hzz : z.size = (bytesOf z).length := (bytesOf_length z).symm
  rw [hg0, hcap0, hzz]
  generalize Lib.bytesWorld w1 5 z = wz at HRX HBW hBW ⊢
  obtain ⟨z0, hz0⟩ : ∃ z0, bytesOf z = z0 := ⟨_, rfl⟩
  have hz0l : z0.length ≤ 10 := by rw [← hz0, bytesOf_length]; exact HZL.out
  rw [hz0] at HRX HRR ⊢
  clear hzz hz0 hg0 hcap0
  have HP0 : Aside0 (Pk B ((wz.alloc (.cells #[sl g0 z0.length cap0] 62)).alloc (.map #[] 0)) wz.heap.size g0 cap0 z0) :=
    ⟨⟨blk_alloc (blk_new wz _) _, (HRX.out.mod ((Mod.refl (fun _ => False) wz).alloc _) (fun h => h)).mod ((Mod.refl (fun _ => False) _).alloc _) (fun h => h), hBW⟩⟩
  have HM0 : Aside0 (Mp ((wz.alloc (.cells #[sl g0 z0.length cap0] 62)).alloc (.map #[] 0)) (wz.heap.size + 1) 0 (Pl s 0)) :=
    ⟨by have := World.ownsMap_made (wz.alloc (.cells #[sl g0 z0.length cap0] 62)) Try.prog 77 (plainElem (H := Unit) Try.prog 3); rw [show (wz.alloc (.cells #[sl g0 z0.length cap0] 62)).heap.size = wz.heap.size + 1 by simp] at this; exact this⟩
  have HB0 := Aside0.mk ((HBW.out.alloc hBW (.cells #[sl g0 z0.length cap0] 62)).alloc (Nat.le_trans hBW (by simp)) (.map #[] 0))
  have hB0 : B ≤ ((wz.alloc (.cells #[sl g0 z0.length cap0] 62)).alloc (.map #[] 0)).heap.size := Nat.le_trans hBW (by simp; omega)
  obtain ⟨P, hP⟩ : ∃ P, wz.heap.size = P := ⟨_, rfl⟩
  rw [hP] at HP0 HM0 ⊢
  obtain ⟨M, hM⟩ : ∃ M, P + 1 = M := ⟨_, rfl⟩
  rw [hM] at HM0 ⊢
  have hMB : B ≤ M := by omega
  generalize (wz.alloc (.cells #[sl g0 z0.length cap0] 62)).alloc (.map #[] 0) = W0 at HP0 HM0 HB0 hB0 ⊢
  clear HRX HBW hBW hM hP HB1 kb hmm
  go_loopg [6, 7] (s.size + 1) (fun kq v6 v7 wr => ∃ (p i : Nat) (g cap : Nat) (xs : List Int), v6 = .int .i64 p ∧ v7 = .int .i64 i ∧ p ≤ i ∧ i ≤ s.size ∧ xs.length ≤ 10 + 2 * p ∧ Aside0 (s.size - i < kq) ∧ Aside0 (packL s kq i p xs = R) ∧ Aside0 (Pk B wr P g cap xs) ∧ Aside0 (Mp wr M i (Pl s i)) ∧ Aside0 (Below B w wr) ∧ B ≤ wr.heap.size)
  case atStart => exact ⟨0, 0, g0, cap0, z0, by go_num, by go_num, by omega, by omega, by omega, ⟨by omega⟩, HRR, HP0, HM0, HB0, hB0⟩
  case round =>
    clear HRR HP0 HM0 HB0 hB0
    obtain ⟨p, i, g, cap, xs, rfl, rfl, hpi, his, hxl, HK, HE, HP, HM, HB, hBr⟩ := hrel
    by_cases hlt : i < s.size
    · have hltb : decide (i < s.size) = true := decide_eq_true hlt
      have hk1 := HK.out
      obtain ⟨gr, rfl⟩ : ∃ gr, gk = gr + 1 := ⟨gk - 1, by omega⟩
      have hE := HE.out
      rw [packL, if_pos hlt] at hE
      have hfi := find_calls s i M i hs his _ HM.out
      have hff := findF_eq s i
      rcases hj : stepJ s i with _ | j
      · rw [hj] at hE hff
        dsimp only at hE hff
        rw [hff] at hfi
        have HFI := Aside0.mk hfi
        have HEE := Aside0.mk hE
        clear hfi hff hE hj HE
        go_wp2_with fail
        refine HFI.out.mono ?_
        rintro e w3 ⟨rfl, hb3⟩
        have HP3 := Aside0.mk (HP.out.below hb3)
        have HM3 : Aside0 (Mp w3 M (i + 0) (Pl s (i + 0))) := ⟨HM.out.below hb3⟩
        have HB3 := Aside0.mk (HB.out.trans (hb3.mono hBr))
        have hB3 : B ≤ w3.heap.size := Nat.le_trans hBr hb3.size
        clear hb3 HP HM HB HFI
        go_wp2_with fail
        go_loopg [52] 1 (fun kq v52 wr => ∃ (t : Nat), v52 = .int .i64 t ∧ t ≤ 1 ∧ Aside0 (kq = 1 - t) ∧ Aside0 (Pk B wr P g cap xs) ∧ Aside0 (Mp wr M (i + t) (Pl s (i + t))) ∧ Aside0 (Below B w wr) ∧ B ≤ wr.heap.size)
        case atStart => exact ⟨0, by go_num, by omega, ⟨by omega⟩, HP3, HM3, HB3, hB3⟩
        case round =>
          clear HP3 HM3 HB3 hB3
          obtain ⟨t, rfl, ht, HKT, HPT, HMT, HBT, hBT⟩ := hrel
          by_cases htn : t < 1
          · have htb : decide (t < 1) = true := decide_eq_true htn
            have hno := note_calls s (i + t) M (i + t) hs (by omega) (by omega) _ HMT.out
            have hit : (i : Int) + (t : Int) = ((i + t : Nat) : Int) := by omega
            obtain ⟨it, hitn⟩ : ∃ it : Nat, i + t = it := ⟨_, rfl⟩
            rw [hitn] at hno hit
            have HNO := Aside0.mk hno
            have HITN := Aside0.mk hitn
            clear hno hitn
            go_wp2_with fail
            refine HNO.out.mono ?_
            rintro e w8 ⟨rfl, hm8, hmod8⟩
            have HP8 := Aside0.mk (HPT.out.map HMT.out hmod8)
            have HB8 := Aside0.mk (hmod8.below HBT.out hBT (by rintro i rfl; exact hMB))
            have hB8 : B ≤ w8.heap.size := Nat.le_trans hBT hmod8.size
            have HM8 := Aside0.mk hm8
            clear hm8 hmod8 HNO HPT HMT HBT hit
            go_wp2_with fail
            go_roundg (1 - (t + 1))
            case measure => have := HKT.out; omega
            case rel =>
              have e := HITN.out
              exact ⟨t + 1, by go_num, by omega, ⟨rfl⟩, HP8, ⟨by have := HM8.out; rw [← e] at this; exact this⟩, HB8, hB8⟩
          · have htb : decide (t < 1) = false := decide_eq_false htn
            have het : t = 1 := by omega
            rw [het] at HMT
            clear het
            go_wp2_with fail
            go_roundg gr
            case measure => omega
            case rel =>
              exact ⟨p, i + 1, g, cap, xs, rfl, by go_num, by omega, by omega, hxl, ⟨by omega⟩, HEE, HPT, HMT, HBT, hBT⟩
      · rw [hj] at hE hff
        dsimp only at hE hff
        rw [hff] at hfi
        obtain ⟨hji, hm4, hm64, hin⟩ := stepJ_some hj
        obtain ⟨n, hn⟩ : ∃ n, mt s j i = n := ⟨_, rfl⟩
        have hma := fun W => match_calls s j i hs (by omega) his W
        rw [hn] at hE hma hm4 hm64 hin
        have hsegl := seg_len s p i hpi his
        have hlb := litB_len (seg s p i)
        have hcl := cpB_len (n : Int) ((i : Int) - (j : Int))
        obtain ⟨x1, hx1⟩ : ∃ x1, s.extract p i = x1 := ⟨_, rfl⟩
        have hsl := fun W => run_slice_string (P := Try.prog) (w := W) 9 s .i64 .i64 (p : Int) (i : Int) Try.underlying9 (by omega) (by omega) (by omega)
        simp only [Int.toNat_natCast] at hsl
        rw [hx1] at hsl
        have hx1z : x1.size ≤ 65536 := by rw [← hx1, ByteArray.size_extract]; omega
        obtain ⟨l1, hl1⟩ : ∃ l1, litB (seg s p i) = l1 := ⟨_, rfl⟩
        obtain ⟨c1, hc1⟩ : ∃ c1, cpB (n : Int) ((i : Int) - (j : Int)) = c1 := ⟨_, rfl⟩
        have hl1x : litB (bytesOf x1) = l1 := by rw [← hx1]; exact hl1
        have hjz : 0 ≤ (j : Int) ∧ (j : Int) < (i : Int) := ⟨Int.natCast_nonneg j, by exact_mod_cast hji⟩
        obtain ⟨bk, hbk⟩ : ∃ bk : Int, (i : Int) - (j : Int) = bk := ⟨_, rfl⟩
        have hbk1 : 1 ≤ bk ∧ bk ≤ 65535 := by omega
        rw [hl1, hc1] at hE
        rw [hl1] at hlb
        rw [hc1] at hcl
        rw [hbk] at hc1
        have hlit := fun (W : World) g cap (hP : Pk B W P g cap xs) (hb : Below B w W) (hB : B ≤ W.heap.size) => literal_calls B w W P g cap xs hP hb hB x1 hx1z (by omega)
        rw [hl1x] at hlit
        have hcpc := fun (W : World) g cap (hP : Pk B W P g cap (xs ++ l1)) (hb : Below B w W) (hB : B ≤ W.heap.size) => copied_calls B w W P g cap (xs ++ l1) hP hb hB (n : Int) bk (by omega) (by omega) hbk1.1 hbk1.2 (by rw [List.length_append]; omega)
        rw [hc1] at hcpc
        have HFI := Aside0.mk hfi
        have HEE := Aside0.mk hE
        have HMA := Aside0.mk hma
        have HLI := Aside0.mk hlit
        have HCP := Aside0.mk hcpc
        have HSL := Aside0.mk hsegl
        have HLB := Aside0.mk hlb
        have HCL := Aside0.mk hcl
        have hj0 : decide (0 ≤ (j : Int)) = true := decide_eq_true hjz.1
        clear hfi hff hE hj HE hma hlit hcpc hl1 hc1 hl1x hx1 hn hsegl hlb hcl hx1z
        go_wp2_with fail
        refine HFI.out.mono ?_
        rintro e w3 ⟨rfl, hb3⟩
        have HP3 := Aside0.mk (HP.out.below hb3)
        have HM3 : Aside0 (Mp w3 M i (Pl s i)) := ⟨HM.out.below hb3⟩
        have HB3 := Aside0.mk (HB.out.trans (hb3.mono hBr))
        have hB3 : B ≤ w3.heap.size := Nat.le_trans hBr hb3.size
        clear hb3 HP HM HB HFI
        go_wp2_with fail
        refine (HMA.out w3).mono ?_
        rintro e w4 ⟨rfl, hb4⟩
        have HP4 := Aside0.mk (HP3.out.below hb4)
        have HM4 : Aside0 (Mp w4 M i (Pl s i)) := ⟨HM3.out.below hb4⟩
        have HB4 := Aside0.mk (HB3.out.trans (hb4.mono hB3))
        have hB4 : B ≤ w4.heap.size := Nat.le_trans hB3 hb4.size
        clear hb4 HP3 HM3 HB3 hB3 HMA
        go_wp2_with fail
        refine (HLI.out w4 g cap HP4.out HB4.out hB4).mono ?_
        rintro e w5 ⟨rfl, g5, cap5, hp5, hb5, hB5, hm5⟩
        have HP5 := Aside0.mk hp5
        have HM5 : Aside0 (Mp w5 M i (Pl s i)) := ⟨hm5 _ _ _ HM4.out⟩
        have HB5 := Aside0.mk hb5
        clear hp5 hb5 hm5 HP4 HM4 HB4 hB4 HLI
        go_wp2_with fail
        refine (HCP.out w5 g5 cap5 HP5.out HB5.out hB5).mono ?_
        rintro e w6 ⟨rfl, g6, cap6, hp6, hb6, hB6, hm6⟩
        have HP6 := Aside0.mk hp6
        have HM6 : Aside0 (Mp w6 M (i + 0) (Pl s (i + 0))) := ⟨hm6 _ _ _ HM5.out⟩
        have HB6 := Aside0.mk hb6
        clear hp6 hb6 hm6 HP5 HM5 HB5 hB5 HCP hsl hbk
        obtain ⟨z6, hz6⟩ : ∃ z6, xs ++ l1 ++ c1 = z6 := ⟨_, rfl⟩
        rw [hz6] at HP6 HEE
        have hz6l : z6.length ≤ 10 + 2 * (i + n) := by
          have h1 := HSL.out
          have h2 := HLB.out
          have h3 := HCL.out
          rw [← hz6, List.length_append, List.length_append]
          omega
        clear hz6
        go_wp2_with fail
        go_loopg [52] n (fun kq v52 wr => ∃ (t : Nat), v52 = .int .i64 t ∧ t ≤ n ∧ Aside0 (kq = n - t) ∧ Aside0 (Pk B wr P g6 cap6 z6) ∧ Aside0 (Mp wr M (i + t) (Pl s (i + t))) ∧ Aside0 (Below B w wr) ∧ B ≤ wr.heap.size)
        case atStart => exact ⟨0, by go_num, by omega, ⟨by omega⟩, HP6, HM6, HB6, hB6⟩
        case round =>
          clear HP6 HM6 HB6 hB6
          obtain ⟨t, rfl, ht, HKT, HPT, HMT, HBT, hBT⟩ := hrel
          by_cases htn : t < n
          · have htb : decide (t < n) = true := decide_eq_true htn
            have hno := note_calls s (i + t) M (i + t) hs (by omega) (by omega) _ HMT.out
            have hit : (i : Int) + (t : Int) = ((i + t : Nat) : Int) := by omega
            obtain ⟨it, hitn⟩ : ∃ it : Nat, i + t = it := ⟨_, rfl⟩
            rw [hitn] at hno hit
            have HNO := Aside0.mk hno
            have HITN := Aside0.mk hitn
            clear hno hitn
            go_wp2_with fail
            refine HNO.out.mono ?_
            rintro e w8 ⟨rfl, hm8, hmod8⟩
            have HP8 := Aside0.mk (HPT.out.map HMT.out hmod8)
            have HB8 := Aside0.mk (hmod8.below HBT.out hBT (by rintro i rfl; exact hMB))
            have hB8 : B ≤ w8.heap.size := Nat.le_trans hBT hmod8.size
            have HM8 := Aside0.mk hm8
            clear hm8 hmod8 HNO HPT HMT HBT hit
            go_wp2_with fail
            go_roundg (n - (t + 1))
            case measure => have := HKT.out; omega
            case rel =>
              have e := HITN.out
              exact ⟨t + 1, by go_num, by omega, ⟨rfl⟩, HP8, ⟨by have := HM8.out; rw [← e] at this; exact this⟩, HB8, hB8⟩
          · have htb : decide (t < n) = false := decide_eq_false htn
            have het : t = n := by omega
            rw [het] at HMT
            clear het
            go_wp2_with fail
            go_roundg gr
            case measure => omega
            case rel =>
              exact ⟨i + n, i + n, g6, cap6, z6, by go_num, by go_num, by omega, by omega, hz6l, ⟨by omega⟩, HEE, HPT, HMT, HBT, hBT⟩
    · obtain rfl : i = s.size := by omega
      have hltb : decide (s.size < s.size) = false := decide_eq_false (Nat.lt_irrefl _)
      have hE : xs ++ litB (seg s p s.size) = R := by
        rw [← HE.out]
        cases gk with
        | zero => rfl
        | succ k => rw [packL, if_neg hlt]
      obtain ⟨x1, hx1⟩ : ∃ x1, s.extract p s.size = x1 := ⟨_, rfl⟩
      have hx1z : x1.size ≤ 65536 := by rw [← hx1, ByteArray.size_extract]; omega
      have hlit := literal_calls B w wr P g cap xs HP.out HB.out hBr x1 hx1z (by omega)
      have hsg : bytesOf x1 = seg s p s.size := by rw [← hx1]; rfl
      rw [hsg, hE] at hlit
      have HLI := Aside0.mk hlit
      clear hE hlit hsg hx1z HE HK HM HB
      go_wp2_with fail
      refine HLI.out.mono ?_
      rintro e w5 ⟨rfl, g5, cap5, hp5, hb5, hB5, hm5⟩
      have HP5 := Aside0.mk hp5
      have HB5 := Aside0.mk hb5
      have c5 := hp5.c0
      have hcv := hp5.row.string
      clear hp5 hb5 hm5 HLI HP
      go_wp2_with fail
      go_ret2
      exact ⟨rfl, HB5.out⟩
end Go.Proofs.Ytpceignbgnekmaa.Sq

/- What is packed is unpacked: in plain lists. -/
namespace Go.Proofs.Ytpceignbgnekmaa.Sq
open Go.RowKit Go.Proofs.YtpceignbgnekmaaW.PrintWords Go.Proofs.Ytpceignbgnekmaa.By Go.Proofs.Ytpceignbgnekmaa.Cur Go.Proofs.Ytpceignbgnekmaa.Sn Go.Proofs.Ytpceignbgnekmaa.Next Go.Proofs.Ytpceignbgnekmaa.Leb

/-- the elements alone -/
def packE (s : ByteArray) : Nat → Nat → Nat → List Int
  | 0, _, p => litB (seg s p s.size)
  | k + 1, i, p =>
    if i < s.size then
      match stepJ s i with
      | none => packE s k (i + 1) p
      | some j => litB (seg s p i) ++ (cpB (mt s j i) ((i : Int) - j) ++ packE s k (i + mt s j i) (i + mt s j i))
    else litB (seg s p s.size)
theorem packL_eq (s : ByteArray) : ∀ (k i p : Nat) (out : List Int), packL s k i p out = out ++ packE s k i p
  | 0, i, p, out => rfl
  | k + 1, i, p, out => by
    unfold packL packE
    split
    · cases h : stepJ s i with
      | none => exact packL_eq s k (i + 1) p out
      | some j =>
        dsimp only
        rw [packL_eq s k _ _ _, List.append_assoc, List.append_assoc]
    · rfl

theorem seg_eq (s : ByteArray) (p i : Nat) : seg s p i = ((bytesOf s).take i).drop p := bytes_extract s p i
theorem take_seg (s : ByteArray) (p i : Nat) (h : p ≤ i) : (bytesOf s).take p ++ seg s p i = (bytesOf s).take i := by
  have := List.take_append_drop p ((bytesOf s).take i)
  rw [List.take_take, Nat.min_eq_left h] at this
  rw [seg_eq]
  exact this

/-- one copy more, of the kind with one byte behind -/
theorem run_near {n : Int} {t : ByteArray} {fuel : Nat} {xs l0 l1 : List Int} {a v : Nat} {x : Int} (h : bytesOf t = l0 ++ ((4 * (v : Int) + 1) :: x :: l1)) (ha : a = l0.length) (hv : v ≤ 63)
    (hback : 0 < ((v / 8 * 256 : Nat) : Int) + x ∧ ((v / 8 * 256 : Nat) : Int) + x ≤ xs.length) (hn : (xs.length : Int) + (4 + v % 8 : Nat) ≤ n) :
    run n t (fuel + 1) xs a = run n t fuel (rep (((v / 8 * 256 : Nat) : Int) + x).toNat (4 + v % 8) xs) (a + 2) := by
  have hts : t.size = l0.length + (l1.length + 1 + 1) := by rw [size_eq, h]; simp
  have hbt : bt t a = 4 * (v : Int) + 1 := by
    rw [ha]
    refine bt_of h _ ?_
    rw [List.getElem?_append_right (Nat.le_refl _), Nat.sub_self]
    rfl
  have hvk : vk t a = v := by unfold vk; rw [hbt]; omega
  have hkk : kk t a = 1 := by unfold kk; rw [hbt]; omega
  have hre : bytesOf (t.extract (a + 1) (a + 2)) = [x] := by
    rw [bytes_extract, h, ha, List.take_append, List.take_of_length_le (by omega), Nat.add_sub_cancel_left, List.drop_append, Nat.add_sub_cancel_left, List.drop_of_length_le (by omega)]
    rfl
  have e := elem_cp (size := n) (s := t) (xs := xs) (a := a) (v := v) (k := 1) (by decide) (by show ¬ _ < 2; omega)
  have hB : cpBack v 1 (t.extract (a + 1) (a + hd v 1)) = ((v / 8 * 256 : Nat) : Int) + x := by
    show ((v / 8 * 256 : Nat) : Int) + leN (bytesOf (t.extract (a + 1) (a + 2))) = _
    rw [hre]
    simp [leN]
  have hC : cpLen v 1 = ((4 + v % 8 : Nat) : Int) := rfl
  rw [hB, hC, cp_ok (by omega), Int.toNat_natCast] at e
  rw [run, if_pos (by omega), hvk, hkk, e]
  rfl

/-- a literal, in whatever head -/
theorem run_litB {n : Int} {t : ByteArray} {fuel : Nat} {xs ys l0 l1 : List Int} {a : Nat} (h : bytesOf t = l0 ++ (litB ys ++ l1)) (ha : a = l0.length) (hy : ys.length ≤ 65536) (hn : (xs.length : Int) + ys.length ≤ n) (hf : t.size - a < fuel) :
    ∃ fuel', run n t fuel xs a = run n t fuel' (xs ++ ys) (a + (litB ys).length) ∧ t.size - (a + (litB ys).length) < fuel' := by
  have hts : t.size = l0.length + ((litB ys).length + l1.length) := by rw [size_eq, h]; simp
  by_cases h0 : ys.length = 0
  · have e : litB ys = [] := by rw [litB, if_pos h0]
    have e2 : ys = [] := List.eq_nil_of_length_eq_zero h0
    exact ⟨fuel, by rw [e, e2]; simp, by rw [e]; simpa using hf⟩
  · obtain ⟨f, rfl⟩ : ∃ f, fuel = f + 1 := ⟨fuel - 1, by omega⟩
    by_cases h60 : ys.length ≤ 60
    · have e : litB ys = [4 * ((ys.length - 1 : Nat) : Int)] ++ ys := by rw [litB, if_neg h0, if_pos h60, show ((ys.length - 1 : Nat) : Int) = (ys.length : Int) - 1 by omega]; rfl
      rw [e, List.append_assoc] at h
      have hr := run_lit (n := n) (fuel := f) (xs := xs) (v := ys.length - 1) (m := ys.length) h ha (by omega) (by unfold hd; rw [if_pos rfl, if_neg (by omega)]; rfl) rfl (by rw [if_neg (by omega)]; omega) rfl hn
      refine ⟨f, ?_, ?_⟩
      · rw [hr, e, List.length_append, Nat.add_assoc]
      · rw [e, List.length_append] at hts ⊢
        simp only [List.length_cons, List.length_nil] at hts ⊢
        omega
    · by_cases h256 : ys.length ≤ 256
      · have e : litB ys = [4 * ((60 : Nat) : Int), (ys.length : Int) - 1] ++ ys := by rw [litB, if_neg h0, if_neg h60, if_pos h256]; rfl
        rw [e, List.append_assoc] at h
        have hr := run_lit (n := n) (fuel := f) (xs := xs) (v := 60) (m := ys.length) h ha (by omega) rfl rfl (by rw [if_pos (by omega)]; simp [leN]) rfl hn
        refine ⟨f, ?_, ?_⟩
        · rw [hr, e, List.length_append, Nat.add_assoc]
        · rw [e, List.length_append] at hts ⊢
          simp only [List.length_cons, List.length_nil] at hts ⊢
          omega
      · have e : litB ys = [4 * ((61 : Nat) : Int), ((ys.length : Int) - 1) % 256, ((ys.length : Int) - 1) / 256] ++ ys := by rw [litB, if_neg h0, if_neg h60, if_neg h256]; rfl
        rw [e, List.append_assoc] at h
        have hr := run_lit (n := n) (fuel := f) (xs := xs) (v := 61) (m := ys.length) h ha (by omega) rfl rfl (by rw [if_pos (by omega)]; simp [leN]; omega) rfl hn
        refine ⟨f, ?_, ?_⟩
        · rw [hr, e, List.length_append, Nat.add_assoc]
        · rw [e, List.length_append] at hts ⊢
          simp only [List.length_cons, List.length_nil] at hts ⊢
          omega

/-- a copy, in either form -/
theorem run_cpB {n : Int} {t : ByteArray} {fuel : Nat} {xs l0 l1 : List Int} {a c b : Nat} (h : bytesOf t = l0 ++ (cpB c b ++ l1)) (ha : a = l0.length) (hc0 : 4 ≤ c) (hc1 : c ≤ 64) (hb0 : 0 < b) (hb1 : b ≤ xs.length) (hb2 : b ≤ 65535) (hn : (xs.length : Int) + c ≤ n) (hf : t.size - a < fuel) :
    ∃ fuel', run n t fuel xs a = run n t fuel' (rep b c xs) (a + (cpB c b).length) ∧ t.size - (a + (cpB c b).length) < fuel' := by
  have hts : t.size = l0.length + ((cpB c b).length + l1.length) := by rw [size_eq, h]; simp
  by_cases hc : (c : Int) ≤ 11 ∧ (b : Int) < 2048
  · have e : cpB c b = [4 * ((c - 4 + 8 * (b / 256) : Nat) : Int) + 1, ((b % 256 : Nat) : Int)] := by
      rw [cpB, if_pos hc]
      congr 1
      omega
    rw [e] at h hts
    obtain ⟨f, rfl⟩ : ∃ f, fuel = f + 1 := ⟨fuel - 1, by simp at hts; omega⟩
    have hv8 : (c - 4 + 8 * (b / 256)) / 8 = b / 256 := by omega
    have hv9 : (c - 4 + 8 * (b / 256)) % 8 = c - 4 := by omega
    have hr := run_near (n := n) (fuel := f) (xs := xs) (v := c - 4 + 8 * (b / 256)) h ha (by omega) (by rw [hv8]; omega) (by rw [hv9]; omega)
    rw [hv8, hv9, show (((b / 256 * 256 : Nat) : Int) + ((b % 256 : Nat) : Int)).toNat = b by omega, show 4 + (c - 4) = c by omega] at hr
    refine ⟨f, ?_, ?_⟩
    · rw [hr, e]; rfl
    · rw [e]; simp at hts ⊢; omega
  · have e : cpB c b = [4 * ((c - 1 : Nat) : Int) + 2, ((b % 256 : Nat) : Int), ((b / 256 : Nat) : Int)] := by
      rw [cpB, if_neg hc]
      congr 1
      omega
    rw [e] at h hts
    obtain ⟨f, rfl⟩ : ∃ f, fuel = f + 1 := ⟨fuel - 1, by simp at hts; omega⟩
    have hr := run_mid (n := n) (fuel := f) (xs := xs) (v := c - 1) h ha (by omega) (by omega) (by omega)
    rw [show (((b % 256 : Nat) : Int) + 256 * ((b / 256 : Nat) : Int)).toNat = b by omega, show c - 1 + 1 = c by omega] at hr
    refine ⟨f, ?_, ?_⟩
    · rw [hr, e]; rfl
    · rw [e]; simp at hts ⊢; omega

theorem rep_take (s : ByteArray) (i j n : Nat) (hj : j < i) (hn : i + n ≤ s.size) (hsame : ∀ t, t < n → bt s (i + t : Nat) = bt s (j + t : Nat)) : ∀ m t, t + m ≤ n → rep (i - j) m ((bytesOf s).take (i + t)) = (bytesOf s).take (i + t + m)
  | 0, t, _ => rfl
  | m + 1, t, h => by
    have hL : (bytesOf s).length = s.size := bytesOf_length s
    have hl : ((bytesOf s).take (i + t)).length = i + t := by rw [List.length_take]; omega
    have hi : i + t < (bytesOf s).length := by omega
    have hjt : j + t < (bytesOf s).length := by omega
    have e : ((bytesOf s).take (i + t)).getD (i + t - (i - j)) 0 = (bytesOf s)[i + t] := by
      rw [show i + t - (i - j) = j + t by omega, List.getD_eq_getElem?_getD, List.getElem?_take, if_pos (by omega), List.getElem?_eq_getElem hjt, Option.getD_some, ← bt_get s (i + t) hi, hsame t (by omega), bt_get s (j + t) hjt]
    rw [rep, hl, e, ← List.take_succ_eq_append_getElem hi, show i + t + 1 = i + (t + 1) by omega, rep_take s i j n hj hn hsame m (t + 1) (by omega)]
    congr 1
    omega

theorem run_pack (s : ByteArray) (hs : s.size ≤ 65536) : ∀ (k i p : Nat) (l0 : List Int) (t : ByteArray) (fuel : Nat), bytesOf t = l0 ++ packE s k i p → p ≤ i → i ≤ s.size → s.size - i < k → t.size - l0.length < fuel →
    run (s.size : Int) t fuel ((bytesOf s).take p) l0.length = (bytesOf s, 0)
  | 0, i, p, l0, t, fuel, _, _, _, hk, _ => absurd hk (by omega)
  | k + 1, i, p, l0, t, fuel, ht, hpi, his, hk, hf => by
    have hL : (bytesOf s).length = s.size := bytesOf_length s
    have hlp : ((bytesOf s).take p).length = p := by rw [List.length_take]; omega
    unfold packE at ht
    split at ht
    · rename_i hlt
      cases hj : stepJ s i with
      | none =>
        rw [hj] at ht
        exact run_pack s hs k (i + 1) p l0 t fuel ht (by omega) (by omega) (by omega) hf
      | some j =>
        rw [hj] at ht
        dsimp only at ht
        obtain ⟨h1, h2, h3, h4⟩ := stepJ_some hj
        have hsame : ∀ u, u < mt s j i → bt s (i + u : Nat) = bt s (j + u : Nat) := fun u hu => (mt_same hu).2.2.symm
        generalize mt s j i = n at ht h2 h3 h4 hsame
        have hsl := seg_len s p i hpi his
        obtain ⟨f1, e1, g1⟩ := run_litB (n := (s.size : Int)) (fuel := fuel) (xs := (bytesOf s).take p) ht rfl (by omega) (by rw [hlp, hsl]; omega) hf
        rw [take_seg s p i hpi] at e1
        have hli : ((bytesOf s).take i).length = i := by rw [List.length_take]; omega
        rw [show ((i : Int) - (j : Int)) = ((i - j : Nat) : Int) by omega, ← List.append_assoc] at ht
        have hl0 : l0.length + (litB (seg s p i)).length = (l0 ++ litB (seg s p i)).length := by rw [List.length_append]
        rw [hl0] at e1 g1
        obtain ⟨f2, e2, g2⟩ := run_cpB (n := (s.size : Int)) (fuel := f1) (xs := (bytesOf s).take i) (c := n) (b := i - j) ht rfl h2 h3 (by omega) (by rw [hli]; omega) (by omega) (by rw [hli]; omega) g1
        have hrt := rep_take s i j n h1 h4 hsame n 0 (by omega)
        rw [Nat.add_zero] at hrt
        rw [hrt] at e2
        rw [← List.append_assoc] at ht
        have hl1 : (l0 ++ litB (seg s p i)).length + (cpB (n : Int) ((i - j : Nat) : Int)).length = (l0 ++ litB (seg s p i) ++ cpB (n : Int) ((i - j : Nat) : Int)).length := (List.length_append).symm
        rw [hl1] at e2 g2
        rw [e1, e2]
        exact run_pack s hs k (i + n) (i + n) _ t f2 ht (Nat.le_refl _) h4 (by omega) g2
    · obtain rfl : i = s.size := by omega
      have hsl := seg_len s p s.size hpi (Nat.le_refl _)
      rw [← List.append_nil (litB _)] at ht
      obtain ⟨f1, e1, g1⟩ := run_litB (n := (s.size : Int)) (fuel := fuel) (xs := (bytesOf s).take p) ht rfl (by omega) (by rw [hlp, hsl]; omega) hf
      have e3 : (bytesOf s).take s.size = bytesOf s := List.take_of_length_le (by omega)
      rw [take_seg s p s.size hpi, e3] at e1
      rw [e1]
      refine run_end ?_
      have : t.size = l0.length + ((litB (seg s p s.size)).length + 0) := by rw [size_eq, ht]; simp
      omega

theorem litB_in (s : ByteArray) (hs : s.size ≤ 65536) (p i : Nat) (hp : p ≤ i) (hi : i ≤ s.size) : InByte (litB (seg s p i)) := by
  have hl := seg_len s p i hp hi
  have hin : InByte (seg s p i) := bytes_in _
  unfold litB
  split
  · exact InByte.nil
  · split
    · exact InByte.cons ⟨by omega, by omega⟩ hin
    · split
      · exact InByte.cons ⟨by omega, by omega⟩ (InByte.cons ⟨by omega, by omega⟩ hin)
      · exact InByte.cons ⟨by omega, by omega⟩ (InByte.cons ⟨by omega, by omega⟩ (InByte.cons ⟨by omega, by omega⟩ hin))
theorem cpB_in (n b : Int) (h0 : 4 ≤ n) (h1 : n ≤ 64) (h2 : 0 ≤ b) (h3 : b ≤ 65535) : InByte (cpB n b) := by
  unfold cpB
  split
  · exact InByte.cons ⟨by omega, by omega⟩ (InByte.cons ⟨by omega, by omega⟩ InByte.nil)
  · exact InByte.cons ⟨by omega, by omega⟩ (InByte.cons ⟨by omega, by omega⟩ (InByte.cons ⟨by omega, by omega⟩ InByte.nil))
theorem packE_in (s : ByteArray) (hs : s.size ≤ 65536) : ∀ (k i p : Nat), p ≤ i → i ≤ s.size → InByte (packE s k i p)
  | 0, i, p, h1, h2 => litB_in s hs p s.size (by omega) (Nat.le_refl _)
  | k + 1, i, p, h1, h2 => by
    unfold packE
    split
    · cases hj : stepJ s i with
      | none => exact packE_in s hs k (i + 1) p (by omega) (by omega)
      | some j =>
        obtain ⟨g1, g2, g3, g4⟩ := stepJ_some hj
        exact (litB_in s hs p i h1 h2).append ((cpB_in _ _ (by omega) (by omega) (by omega) (by omega)).append (packE_in s hs k _ _ (Nat.le_refl _) g4))
    · exact litB_in s hs p s.size (by omega) (Nat.le_refl _)

/-- what is packed is unpacked -/
theorem out_pack (s : ByteArray) (hs : s.size ≤ 65536) (most : Int) (hm : (s.size : Int) ≤ most) : outF (strOfNums (packF s)) most = (s, 0) := by
  have hin : InByte (packE s (s.size + 1) 0 0) := packE_in s hs _ _ _ (Nat.le_refl _) (Nat.zero_le _)
  have hpb : (s.size : Int) < 128 ^ (9 + 1) := by
    have : (128 : Int) ^ (9 + 1) = 1180591620717411303424 := by decide
    omega
  have hpin : InByte (putL 9 (s.size : Int)) := putL_in 9 _ (by omega) hpb
  obtain ⟨t, ht⟩ : ∃ t, strOfNums (packE s (s.size + 1) 0 0) = t := ⟨_, rfl⟩
  have htb : bytesOf t = packE s (s.size + 1) 0 0 := by rw [← ht]; exact bytes_str hin
  have hb : strOfNums (packF s) = strOfNums (putL 9 (s.size : Int)) ++ t := by
    rw [← ht, append_str, packF, packL_eq]
  have hnx := nx_put t (s.size : Int) (by omega) (by omega) 9 0 ((strOfNums (putL 9 (s.size : Int)) ++ t).size + 1) 0 (s.size : Int) [] (by omega) rfl (by omega) (by simp) (by omega) (by omega) rfl (by rw [ByteArray.size_append, strOfNums_size]; omega)
  have hsz : szF (strOfNums (packF s)) = ((s.size : Int), (((putL 9 (s.size : Int)).length : Nat) : Int), 0) := by
    unfold szF
    rw [hb, hnx]
    dsimp only
    rw [if_pos rfl, if_neg (by omega)]
  have hr := run_pack s hs (s.size + 1) 0 0 [] t (t.size + 1) (by rw [htb, List.nil_append]) (Nat.le_refl _) (Nat.zero_le _) (by omega) (by simp)
  have := out_of (most := most) (t := t) (l := putL 9 (s.size : Int)) hsz hm (by rw [hb, bytes_append, bytes_str hpin]) rfl hr (by rw [bytesOf_length])
  rw [this, str_bytes]

theorem litB_cost (l : List Int) : 32 * (litB l).length ≤ 33 * l.length + 36 ∧ 32 * (litB l).length ≤ 33 * l.length + 129 := by
  unfold litB
  split
  · simp
  · split
    · simp only [List.length_cons]; omega
    · split
      · simp only [List.length_cons]; omega
      · simp only [List.length_cons]; omega
theorem lit_cost2 (s : ByteArray) (p i : Nat) (hp : p ≤ i) (hi : i ≤ s.size) : 32 * (litB (seg s p i)).length + 33 * p ≤ 33 * i + 36 := by
  have h1 := (litB_cost (seg s p i)).1
  have h2 := seg_len s p i hp hi
  omega
theorem lit_cost (s : ByteArray) (p i : Nat) (hp : p ≤ i) (hi : i ≤ s.size) : 32 * (litB (seg s p i)).length + 33 * p ≤ 33 * i + 129 := by
  have := lit_cost2 s p i hp hi
  omega
/-- how long a packing is -/
theorem packE_len (s : ByteArray) : ∀ (k i p : Nat), p ≤ i → i ≤ s.size → 32 * (packE s k i p).length + 33 * p ≤ 33 * s.size + 129
  | 0, i, p, h1, h2 => lit_cost s p s.size (by omega) (Nat.le_refl _)
  | k + 1, i, p, h1, h2 => by
    unfold packE
    split
    · cases hj : stepJ s i with
      | none => exact packE_len s k (i + 1) p (by omega) (by omega)
      | some j =>
        obtain ⟨g1, g2, g3, g4⟩ := stepJ_some hj
        have ih := packE_len s k (i + mt s j i) (i + mt s j i) (Nat.le_refl _) g4
        have hc := cpB_len (mt s j i : Nat) ((i : Int) - j)
        have hl := lit_cost2 s p i h1 h2
        dsimp only
        rw [List.length_append, List.length_append]
        omega
    · exact lit_cost s p s.size (by omega) (Nat.le_refl _)
end Go.Proofs.Ytpceignbgnekmaa.Sq
