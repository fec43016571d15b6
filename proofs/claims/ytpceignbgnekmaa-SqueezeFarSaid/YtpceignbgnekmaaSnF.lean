/- snap: the size, and what elements lay, by a contract. -/
import Derived.Test.YtpceignbgnekmaaSnE
import Derived.Test.YtpceignbgnekmaaLeb
namespace Go.Proofs.Ytpceignbgnekmaa.Sn
open Go.RowKit Go.Proofs.YtpceignbgnekmaaW.PrintWords Go.Proofs.Ytpceignbgnekmaa.By Go.Proofs.Ytpceignbgnekmaa.Md Go.Proofs.Ytpceignbgnekmaa.Cur Go.Proofs.Ytpceignbgnekmaa.Next

def szF (s : ByteArray) : Int × Int × Int :=
  let r := nx s (s.size + 1) 0 0
  if r.2.2 = 0 then (if 4294967295 < r.1 then (0, 0, 5) else r) else (0, 0, r.2.2)
/-- what is told of a size -/
def SzOk (s : ByteArray) (r : Int × Int × Int) : Prop := (r.2.2 = 0 ∧ 0 ≤ r.1 ∧ r.1 ≤ 4294967295 ∧ 0 < r.2.1 ∧ r.2.1 ≤ s.size) ∨ (r.2.2 ≠ 0 ∧ r.1 = 0 ∧ r.2.1 = 0)

theorem nx_ok (s : ByteArray) (n k : Int) (h : nx s (s.size + 1) 0 0 = (n, k, 0)) : 0 ≤ n ∧ n < 18446744073709551616 ∧ 0 < k ∧ k ≤ s.size := by
  obtain ⟨v, h1, _, h3, h4, h5, _, h7⟩ := Leb.nx_tells s (s.size + 1) 0 0 n k (by omega) h
  simp only [Nat.mul_zero, Int.pow_zero, Int.mul_one] at h3 h7
  omega
theorem szF_ok (s : ByteArray) : SzOk s (szF s) := by
  unfold szF
  rcases hr : nx s (s.size + 1) 0 0 with ⟨n, k, e⟩
  dsimp only
  split
  · rename_i he
    subst he
    have h1 := nx_ok s n k hr
    split
    · exact .inr ⟨by decide, rfl, rfl⟩
    · exact .inl ⟨rfl, h1.1, by omega, h1.2.2.1, h1.2.2.2⟩
  · exact .inr ⟨by assumption, rfl, rfl⟩

def U3 (r : Int × Int × Int) (e : Ending) : Prop := e = .returned (.tuple #[.int .i64 r.1, .int .i64 r.2.1, .int .i64 r.2.2])

set_option maxRecDepth 100000 in
set_option maxHeartbeats 1000000 in
theorem size_calls (s : ByteArray) (hs : s.size ≤ 140737488351232) (w : World) :
    Calls Try.prog 34 #[.string s] w fun e w' => U3 (szF s) e ∧ Below w.heap.size w w' := by
  have hn := Next.calls s hs w
  have hk := nx_ok s
  unfold szF
  rcases hr : nx s (s.size + 1) 0 0 with ⟨n, k, e⟩
  rw [hr] at hn hk
  have HN := Aside0.mk hn
  dsimp only
  by_cases he : e = 0
  · subst he
    obtain ⟨h0, h1, h2, h3⟩ := hk n k rfl
    rw [if_pos rfl]
    by_cases hb : 4294967295 < n
    · have hbb : decide (4294967295 < n) = true := decide_eq_true hb
      rw [if_pos hb]
      clear hn hr hk
      go_enter Try.func34, Try.ntmps34
      go_wp2_with fail
      refine HN.out.mono ?_
      rintro e w1 ⟨rfl, hb1⟩
      have HB := Aside0.mk hb1
      clear hb1 HN
      go_wp2_with fail
      go_ret3
      exact ⟨rfl, HB.out⟩
    · have hbb : decide (4294967295 < n) = false := decide_eq_false hb
      rw [if_neg hb]
      clear hn hr hk
      go_enter Try.func34, Try.ntmps34
      go_wp2_with fail
      refine HN.out.mono ?_
      rintro e w1 ⟨rfl, hb1⟩
      have HB := Aside0.mk hb1
      clear hb1 HN
      go_wp2_with fail
      go_ret3
      exact ⟨rfl, HB.out⟩
  · rw [if_neg he]
    have heb : (e == 0) = false := beq_eq_false_iff_ne.mpr he
    have hec : (e != 0) = true := bne_iff_ne.mpr he
    clear hn hr hk
    go_enter Try.func34, Try.ntmps34
    go_wp2_with fail
    refine HN.out.mono ?_
    rintro e w1 ⟨rfl, hb1⟩
    have HB := Aside0.mk hb1
    clear hb1 HN
    go_wp2_with fail
    go_ret3
    exact ⟨rfl, HB.out⟩

def vk (s : ByteArray) (a : Nat) : Nat := (bt s a).toNat / 4
def kk (s : ByteArray) (a : Nat) : Nat := (bt s a).toNat % 4
/-- element by element -/
def run (size : Int) (s : ByteArray) : Nat → List Int → Nat → List Int × Int
  | 0, xs, _ => (xs, 0)
  | k + 1, xs, a =>
    if a < s.size then
      let σ := elem size s (xs, a + 1, 0) (vk s a) (kk s a)
      if σ.2.2 = 0 then run size s k σ.1 σ.2.1 else (σ.1, σ.2.2)
    else (xs, 0)
def fin (size : Int) (r : List Int × Int) : ByteArray × Int :=
  if r.2 ≠ 0 then (⟨#[]⟩, r.2) else if (r.1.length : Int) < size then (⟨#[]⟩, 2) else (strOfNums r.1, 0)

/-- what an element leaves -/
def Step (size : Int) (s : ByteArray) (a : Nat) (σ : St) : Prop := (σ.1.length : Int) ≤ size ∧ a ≤ σ.2.1 ∧ σ.2.1 ≤ s.size ∧ InByte σ.1

theorem tk_step (s : ByteArray) (a : Nat) (f n : Int) (ha : a ≤ s.size) : a ≤ (tk s a f n).2.1 ∧ (tk s a f n).2.1 ≤ s.size ∧ (f ≠ 0 → (tk s a f n).1.size = 0) := by
  unfold tk
  split
  · exact ⟨Nat.le_refl _, ha, fun _ => rfl⟩
  · split
    · exact ⟨Nat.le_refl _, ha, fun _ => rfl⟩
    · split
      · exact ⟨Nat.le_refl _, ha, fun _ => rfl⟩
      · dsimp only
        exact ⟨by omega, by omega, fun h => by omega⟩
theorem roomF_zero {size : Int} {len : Nat} {f n : Int} (h : roomF size len f n = 0) : f = 0 ∧ (len : Int) + n ≤ size := by
  unfold roomF at h
  split at h <;> omega
theorem litN_step (size : Int) (s : ByteArray) (xs : List Int) (a : Nat) (f n : Int) (hx : (xs.length : Int) ≤ size) (hi : InByte xs) (ha : a ≤ s.size) : Step size s a (litN size s (xs, a, f) n) := by
  unfold litN
  dsimp only
  obtain ⟨h1, h2, h3⟩ := tk_step s a (roomF size xs.length f n) n ha
  refine ⟨?_, h1, h2, hi.append (bytes_in _)⟩
  dsimp only
  rw [List.length_append, bytesOf_length]
  rcases tk_len (s := s) (a := a) (f := roomF size xs.length f n) (n := n) with h4 | ⟨h4, h5⟩
  · omega
  · have := roomF_zero h4
    omega
theorem lit_step (size : Int) (s : ByteArray) (xs : List Int) (a : Nat) (f v : Int) (hx : (xs.length : Int) ≤ size) (hi : InByte xs) (ha : a ≤ s.size) : Step size s a (lit size s (xs, a, f) v) := by
  unfold lit
  dsimp only
  split
  · obtain ⟨h1, h2, h3⟩ := tk_step s a f (v - 59) ha
    obtain ⟨g1, g2, g3, g4⟩ := litN_step size s xs (tk s a f (v - 59)).2.1 (tk s a f (v - 59)).2.2 (leN (bytesOf (tk s a f (v - 59)).1) + 1) hx hi h2
    exact ⟨g1, Nat.le_trans h1 g2, g3, g4⟩
  · exact litN_step size s xs a f (v + 1) hx hi ha
theorem cp_step (size : Int) (s : ByteArray) (xs : List Int) (a : Nat) (f n b : Int) (hn : 0 ≤ n) (hx : (xs.length : Int) ≤ size) (hi : InByte xs) (ha : a ≤ s.size) : Step size s a (cp size (xs, a, f) n b) := by
  unfold cp
  dsimp only
  split
  · rename_i h
    have := roomF_zero h
    refine ⟨?_, Nat.le_refl _, ha, rep_in _ _ _ hi⟩
    dsimp only
    rw [rep_len]
    omega
  · exact ⟨hx, Nat.le_refl _, ha, hi⟩
theorem elem_step (size : Int) (s : ByteArray) (xs : List Int) (a v k : Nat) (hx : (xs.length : Int) ≤ size) (hi : InByte xs) (ha : a ≤ s.size) : Step size s a (elem size s (xs, a, 0) v k) := by
  have hfar : ∀ n, Step size s a (far size s (xs, a, 0) n v) := by
    intro n
    unfold far
    dsimp only
    obtain ⟨h1, h2, h3⟩ := tk_step s a 0 n ha
    obtain ⟨g1, g2, g3, g4⟩ := cp_step size s xs (tk s a 0 n).2.1 (tk s a 0 n).2.2 (v + 1) (leN (bytesOf (tk s a 0 n).1)) (by omega) hx hi h2
    exact ⟨g1, Nat.le_trans h1 g2, g3, g4⟩
  unfold elem
  split
  · exact lit_step size s xs a 0 v hx hi ha
  · split
    · unfold near
      dsimp only
      obtain ⟨h1, h2, h3⟩ := tk_step s a 0 1 ha
      obtain ⟨g1, g2, g3, g4⟩ := cp_step size s xs (tk s a 0 1).2.1 (tk s a 0 1).2.2 (4 + (v % 8 : Nat)) ((v / 8 * 256 : Nat) + leN (bytesOf (tk s a 0 1).1)) (by omega) hx hi h2
      exact ⟨g1, Nat.le_trans h1 g2, g3, g4⟩
    · split
      · exact hfar 2
      · exact hfar 4

/-- in the world's fact: u8 byte as head -/
theorem head_eq (s : ByteArray) (a : Nat) : bt s a = ((4 * vk s a + kk s a : Nat) : Int) ∧ vk s a ≤ 63 ∧ kk s a < 4 := by
  have := bt_range s a
  unfold vk kk
  omega

theorem Un.start {B0 : Nat} {w : World} {U R : Nat} {size : Int} {s : ByteArray} (hU : w.heap[U]? = some (.cells #[Ptr R, .slice none 0 0, .int .i64 size] 73 (0, 0))) (hR : Rd w R s 0 0) (h1 : B0 ≤ U) (h2 : B0 ≤ R) : Un B0 w U R none 0 [] size s 0 0 :=
  ⟨hU, World.ownsRow_nil _ _ _ _, hR, h1, h2⟩
theorem Un.str {B0 : Nat} {w : World} {U R : Nat} {A : Option Addr} {c : Nat} {xs : List Int} {size : Int} {s : ByteArray} {a : Nat} {f : Int} (h : Un B0 w U R A c xs size s a f) :
    (convert 32 9 (.slice A xs.length c)).run Try.prog w = .ok (.string (strOfNums xs)) w := own_string (P := Try.prog) Try.underlying32 Try.underlying5 Try.underlying9 h.own

def S2 (r : ByteArray × Int) (e : Ending) : Prop := e = .returned (.tuple #[.string r.1, .int .i64 r.2])
end Go.Proofs.Ytpceignbgnekmaa.Sn
