/- Plain: the document's Show, copied and Same on trees. -/
import Derived.Test.YtkdkdjhdoplicaaItP
import Derived.Test.YtkdkdjhdoplicaaItH7
import Derived.Test.YtkdkdjhdoplicaaItH3
namespace Go.Proofs.Ytkdkdjhdoplicaa.It
open Go.RowKit Go.Proofs.YtkdkdjhdoplicaaW.PrintWords Go.Proofs.YtkdkdjhdoplicaaW.PrintLast Go.Proofs.YtkdkdjhdoplicaaW.PrintMore

def bs (l : List UInt8) : ByteArray := ⟨l.toArray⟩
theorem bs_size (l : List UInt8) : (bs l).size = l.length := by simp [bs, ByteArray.size]
theorem bs_append (a b : List UInt8) : bs a ++ bs b = bs (a ++ b) := by
  apply ByteArray.ext
  simp [bs]
abbrev digs : ByteArray := ⟨#[48, 49, 50, 51, 52, 53, 54, 55, 56, 57, 97, 98, 99, 100, 101, 102]⟩
theorem dig_ext (q : Nat) (hq : q < 16) : digs.extract q (q + 1) = bs [dig q] := by
  have : q = 0 ∨ q = 1 ∨ q = 2 ∨ q = 3 ∨ q = 4 ∨ q = 5 ∨ q = 6 ∨ q = 7 ∨ q = 8 ∨ q = 9 ∨ q = 10 ∨ q = 11 ∨ q = 12 ∨ q = 13 ∨ q = 14 ∨ q = 15 := by omega
  rcases this with rfl | rfl | rfl | rfl | rfl | rfl | rfl | rfl | rfl | rfl | rfl | rfl | rfl | rfl | rfl | rfl <;> rfl

theorem tdiv16 (m : Nat) : Int.tdiv (m : Int) 16 = ((m / 16 : Nat) : Int) := rfl
theorem tmod16 (m : Nat) : Int.tmod (m : Int) 16 = ((m % 16 : Nat) : Int) := rfl
theorem wid (m : Nat) (h : m ≤ 1000000000) : wrap64 (m : Int) = (m : Int) := by unfold wrap64; omega
theorem wid1 (m : Nat) (h : m ≤ 1000000000) : wrap64 ((m : Int) + 1) = ((m + 1 : Nat) : Int) := by unfold wrap64; omega
theorem sz_ok (a b : List UInt8) (h : a.length + b.length ≤ 2000000) : (bs a).size + (bs b).size ≤ 9223372036854775807 := by rw [bs_size, bs_size]; omega
theorem le_succ_cast (m : Nat) : (m : Int) ≤ ((m + 1 : Nat) : Int) := by omega
theorem le16 (m : Nat) (h : m < 16) : ((m + 1 : Nat) : Int) ≤ 16 := by omega
theorem text_loop (t : ByteArray) (b : Bool) (s : List S43) :
    ∀ (d i : Nat) (a : List UInt8), d + i = t.size → a.length + 2 * d ≤ 1000000 → t.size ≤ 1000000 → Ev (fun k => hatchwayref08_Show.l1 k (bs a) (i : Int) t b s) (bs (a ++ hexs (t.data.toList.drop i))) := by
  intro d
  induction d with
  | zero =>
    intro i a hd ha ht
    refine Ev.step (f := fun _ => some (bs a)) (fun k => ?_) (evq (Ev.now _) ?_)
    · simp only [hatchwayref08_Show.l1]
      rw [if_neg (by omega)]
    · have : t.data.toList.length = t.size := by rw [Array.length_toList]; rfl
      rw [List.drop_eq_nil_of_le (by omega)]; simp [hexs]
  | succ d ihd =>
    intro i a hd ha ht
    have hl : t.data.toList.length = t.size := by rw [Array.length_toList]; rfl
    have hlt : i < t.size := by omega
    obtain ⟨c, hc⟩ : ∃ c, t.data.toList[i]'(by omega) = c := ⟨_, rfl⟩
    have hbt : bt t (i : Int) = (c.toNat : Int) := by
      have : (i : Int).toNat < t.size := by omega
      rw [bt, dif_pos this]
      simp only [Int.toNat_natCast]
      rw [← hc]
      rfl
    have hcl := c.toNat_lt
    obtain ⟨q, hq⟩ : ∃ q, c.toNat / 16 = q := ⟨_, rfl⟩
    obtain ⟨r, hr⟩ : ∃ r, c.toNat % 16 = r := ⟨_, rfl⟩
    have hq1 : q < 16 := by omega
    have hr1 : r < 16 := by omega
    have hi1 : i ≤ 1000000000 := by omega
    have hm1 : c.toNat ≤ 1000000000 := by omega
    have hq2 : q ≤ 1000000000 := by omega
    have hr2 : r ≤ 1000000000 := by omega
    have hd1 : d + (i + 1) = t.size := by omega
    have hd2 : (a ++ [dig q] ++ [dig r]).length + 2 * d ≤ 1000000 := by simp only [List.length_append, List.length_cons, List.length_nil]; omega
    have hd3 : i < t.data.toList.length := by omega
    have c1 : (i : Int) < (t.size : Int) := by omega
    have c6 := sz_ok a [dig q] (by simp only [List.length_cons, List.length_nil]; omega)
    have c7 := sz_ok (a ++ [dig q]) [dig r] (by simp only [List.length_append, List.length_cons, List.length_nil]; omega)
    have e3 := wid1 q hq2
    have e4 := wid1 r hr2
    have e5 := wid1 i hi1
    have e0 : wrap64 (bt t (i : Int)) = (c.toNat : Int) := by rw [hbt, wid _ hm1]
    have e2 : Int.tmod (wrap64 (bt t (i : Int))) 16 = (r : Int) := by rw [e0, tmod16, hr]
    have e1 : wrap64 (Int.tdiv (wrap64 (bt t (i : Int))) 16) = (q : Int) := by rw [e0, tdiv16, hq, wid q hq2]
    have x1 := dig_ext q hq1
    have x2 := dig_ext r hr1
    refine Ev.step (f := fun k => hatchwayref08_Show.l1 k (bs (a ++ [dig q] ++ [dig r])) ((i + 1 : Nat) : Int) t b s) (fun k => ?_) ?_
    · simp only [hatchwayref08_Show.l1]
      rw [e1, e2, e3, e4, e5]
      simp only [Int.toNat_natCast]
      rw [x1, x2, bs_append, bs_append]
      rw [if_pos c1, if_pos (Int.natCast_nonneg i), if_pos (Int.natCast_nonneg q), if_pos (le_succ_cast q), if_pos (le16 q hq1), if_pos c6, if_pos (Int.natCast_nonneg r), if_pos (le_succ_cast r), if_pos (le16 r hr1), if_pos c7]
    · refine evq (ihd (i + 1) (a ++ [dig q] ++ [dig r]) hd1 hd2 ht) ?_
      clear e0 e1 e2 e3 e4 e5 c1 c6 c7
      rw [List.drop_eq_getElem_cons hd3, hc]
      simp [hexs, hq, hr]

theorem show_loop (n : Nat) (ih : ∀ (x : S43), cnt x < n → Fit x → (shw x).length ≤ 1000000 → Ev (fun k => hatchwayref08_Show.f k x.f0 x.f1 x.f2) (bs (shw x))) (t : ByteArray) (b : Bool) (s : List S43) (hs : Fit ⟨t, b, s⟩) (hc : cnts s < n) :
    ∀ (d i : Nat) (a : List UInt8), d + i = s.length → a.length + (shws (decide (i = 0)) (s.drop i)).length ≤ 1000000 → Ev (fun k => hatchwayref08_Show.l0 k (bs a) (i : Int) t b s) (bs (a ++ shws (decide (i = 0)) (s.drop i) ++ [41])) := by
  intro d
  induction d with
  | zero =>
    intro i a hd ha
    refine Ev.step (f := fun _ => some (bs (a ++ [41]))) (fun k => ?_) (evq (Ev.now _) ?_)
    · simp only [hatchwayref08_Show.l0]
      rw [if_neg (by omega), show (⟨#[41]⟩ : ByteArray) = bs [41] from rfl, bs_append, bs_size, if_pos (by omega)]
    · rw [List.drop_eq_nil_of_le (by omega)]; simp [shws]
  | succ d ihd =>
    intro i a hd ha
    have hlt : i < s.length := by omega
    simp only [Fit] at hs
    have hw := wrap_nat hlt hs.1
    have hg := cnt_get hlt
    rw [List.drop_eq_getElem_cons hlt] at ha ⊢
    simp only [shws, List.length_append] at ha ⊢
    have hx := ih s[i] (by omega) (hs.2.get hlt) (by omega)
    by_cases h0 : i = 0
    · simp only [h0, decide_true, if_true, List.length_nil] at ha
      refine Ev.step (f := fun k => (hatchwayref08_Show.f k s[i].f0 s[i].f1 s[i].f2).bind fun q => if (bs a).size + q.size ≤ 9223372036854775807 then hatchwayref08_Show.l0 k (bs a ++ q) ((i + 1 : Nat) : Int) t b s else none) (fun k => ?_) ?_
      · simp only [hatchwayref08_Show.l0]
        rw [if_pos (by omega), if_neg (by omega), if_pos (by omega), rd_get hlt, hw]
      · refine Ev.bind hx ?_
        refine Ev.congr (fun k => if_pos (by rw [bs_size, bs_size]; subst h0; omega)) ?_
        rw [bs_append]
        refine evq (ihd (i + 1) (a ++ shw s[i]) (by omega) (by subst h0; simp only [List.length_append]; simpa [Nat.add_assoc] using ha)) ?_
        simp [h0]
    · simp only [h0, decide_false, Bool.false_eq_true, if_false, List.length_cons, List.length_nil] at ha
      refine Ev.step (f := fun k => (hatchwayref08_Show.f k s[i].f0 s[i].f1 s[i].f2).bind fun q => if (bs (a ++ [32])).size + q.size ≤ 9223372036854775807 then hatchwayref08_Show.l0 k (bs (a ++ [32]) ++ q) ((i + 1 : Nat) : Int) t b s else none) (fun k => ?_) ?_
      · simp only [hatchwayref08_Show.l0]
        rw [if_pos (by omega), if_pos (by omega), if_pos (by rw [bs_size]; omega), if_pos (by omega), rd_get hlt, hw, show (⟨#[32]⟩ : ByteArray) = bs [32] from rfl, bs_append]
      · refine Ev.bind hx ?_
        refine Ev.congr (fun k => if_pos (by rw [bs_size, bs_size, List.length_append, List.length_cons, List.length_nil]; omega)) ?_
        rw [bs_append]
        refine evq (ihd (i + 1) (a ++ [32] ++ shw s[i]) (by omega) (by rw [show decide (i + 1 = 0) = false from rfl]; simp only [List.length_append, List.length_cons, List.length_nil]; omega)) ?_
        simp [h0]
theorem show_ev (n : Nat) : ∀ (x : S43), cnt x < n → Fit x → (shw x).length ≤ 1000000 → Ev (fun k => hatchwayref08_Show.f k x.f0 x.f1 x.f2) (bs (shw x)) := by
  induction n with
  | zero => intro x h; omega
  | succ n ih =>
    rintro ⟨t, b, s⟩ hx hf hm
    simp only [cnt] at hx
    cases b
    · by_cases h : t.size = 0
      · refine Ev.step (f := fun _ => some (bs [45])) (fun k => ?_) (evq (Ev.now _) ?_)
        · simp only [hatchwayref08_Show.f]
          rw [if_neg (by simp), if_pos ((toList_nil_iff t).2 h)]
          rfl
        · rw [shw, if_neg (by simp), if_pos h]
      · have hs : shw ⟨t, false, s⟩ = hexs t.data.toList := by rw [shw, if_neg (by simp), if_neg h]
        have hl : t.data.toList.length = t.size := by rw [Array.length_toList]; rfl
        rw [hs, hexs_len, hl] at hm
        refine Ev.step (f := fun k => hatchwayref08_Show.l1 k (bs []) ((0 : Nat) : Int) t false s) (fun k => ?_) ?_
        · simp only [hatchwayref08_Show.f]
          rw [if_neg (by simp), if_neg (fun e => h ((toList_nil_iff t).1 e))]
          rfl
        · refine evq (text_loop t false s t.size 0 [] (by omega) (by simp; omega) (by omega)) ?_
          rw [hs]
          simp
    · have hs : shw ⟨t, true, s⟩ = 40 :: (shws true s ++ [41]) := by rw [shw, if_pos rfl]
      rw [hs] at hm
      simp only [List.length_cons, List.length_append, List.length_nil] at hm
      refine Ev.step (f := fun k => hatchwayref08_Show.l0 k (bs [40]) ((0 : Nat) : Int) t true s) (fun k => ?_) ?_
      · simp only [hatchwayref08_Show.f]
        rw [if_pos trivial]
        rfl
      · refine evq (show_loop n ih t true s hf (by omega) s.length 0 [40] (by omega) (by simp only [decide_true, List.drop_zero, List.length_cons, List.length_nil]; omega)) ?_
        rw [hs]
        simp

theorem t43 (x : S43) : (⟨x.f0, x.f1, x.f2⟩ : S43) = x := by cases x; rfl
theorem copied_loop (n : Nat) (ih : ∀ (x : S43), cnt x < n → Fit x → cnt x ≤ 1000000 → Ev (fun k => item_copied.f k x.f0 x.f1 x.f2) (x.f0, x.f1, x.f2)) (t : ByteArray) (b : Bool) (s : List S43) (hs : Fit ⟨t, b, s⟩) (hc : cnts s < n) (hm : cnts s ≤ 1000000) :
    ∀ (d i : Nat), d + i = s.length → Ev (fun k => item_copied.l0 k s (s.length : Int) (i : Int) t b (s.take i)) (t, b, s) := by
  intro d
  induction d with
  | zero =>
    intro i hd
    refine Ev.step (f := fun _ => some (t, b, s.take i)) (fun k => ?_) (evq (Ev.now _) ?_)
    · simp only [item_copied.l0]
      rw [if_neg (by omega)]
    · rw [List.take_of_length_le (by omega)]
  | succ d ihd =>
    intro i hd
    have hlt : i < s.length := by omega
    simp only [Fit] at hs
    have hw := wrap_nat hlt hs.1
    have hg := cnt_get hlt
    have hl := cnts_len s
    have hlen : (s.take i).length < 2932031007402 := by rw [List.length_take]; omega
    have h1 : cnt s[i] < n := by omega
    have h2 : cnt s[i] ≤ 1000000 := by omega
    have h3 : d + (i + 1) = s.length := by omega
    refine Ev.step (f := fun k => (item_copied.f k s[i].f0 s[i].f1 s[i].f2).bind fun q => item_copied.l0 k s (s.length : Int) ((i + 1 : Nat) : Int) t b (s.take i ++ [(⟨q.1, q.2.1, q.2.2⟩ : S43)])) (fun k => ?_) ?_
    · simp only [item_copied.l0]
      rw [if_pos (by omega), if_pos (by omega), if_pos (by omega), rd_get hlt, hw]
      simp only [if_pos hlen]
    · refine Ev.bind (ih s[i] h1 (hs.2.get hlt) h2) ?_
      have := ihd (i + 1) h3
      rw [List.take_succ_eq_append_getElem hlt, ← t43 s[i]] at this
      exact this
theorem copied_ev (n : Nat) : ∀ (x : S43), cnt x < n → Fit x → cnt x ≤ 1000000 → Ev (fun k => item_copied.f k x.f0 x.f1 x.f2) (x.f0, x.f1, x.f2) := by
  induction n with
  | zero => intro x h; omega
  | succ n ih =>
    rintro ⟨t, b, s⟩ hx hf hm
    simp only [cnt] at hx hm
    refine Ev.step (f := fun k => item_copied.l0 k s (s.length : Int) ((0 : Nat) : Int) t b (s.take 0)) (fun k => ?_) (copied_loop n ih t b s hf (by omega) (by omega) s.length 0 (by omega))
    simp only [item_copied.f]
    rfl
theorem same_loop (n : Nat) (ih : ∀ (x : S43), cnt x < n → Fit x → Ev (fun k => hatchwayref08_Same.f k x.f0 x.f1 x.f2 x.f0 x.f1 x.f2) true) (t : ByteArray) (b : Bool) (s : List S43) (hs : Fit ⟨t, b, s⟩) (hc : cnts s < n) :
    ∀ (d i : Nat), d + i = s.length → Ev (fun k => hatchwayref08_Same.l0 k (i : Int) t b s t b s) true := by
  intro d
  induction d with
  | zero =>
    intro i hd
    refine Ev.step (f := fun _ => some true) (fun k => ?_) (Ev.now _)
    simp only [hatchwayref08_Same.l0]
    rw [if_neg (by omega)]
  | succ d ihd =>
    intro i hd
    have hlt : i < s.length := by omega
    simp only [Fit] at hs
    have hw := wrap_nat hlt hs.1
    have hg := cnt_get hlt
    refine Ev.step (f := fun k => (hatchwayref08_Same.f k s[i].f0 s[i].f1 s[i].f2 s[i].f0 s[i].f1 s[i].f2).bind fun q => if q = true then hatchwayref08_Same.l0 k ((i + 1 : Nat) : Int) t b s t b s else some false) (fun k => ?_) ?_
    · simp only [hatchwayref08_Same.l0]
      rw [if_pos (by omega), if_pos (by omega), if_pos (by omega), rd_get hlt, hw]
    · refine Ev.bind (ih s[i] (by omega) (hs.2.get hlt)) ?_
      simpa using ihd (i + 1) (by omega)
theorem same_ev (n : Nat) : ∀ (x : S43), cnt x < n → Fit x → Ev (fun k => hatchwayref08_Same.f k x.f0 x.f1 x.f2 x.f0 x.f1 x.f2) true := by
  induction n with
  | zero => intro x h; omega
  | succ n ih =>
    rintro ⟨t, b, s⟩ hx hf
    simp only [cnt] at hx
    refine Ev.step (f := fun k => hatchwayref08_Same.j0 k false t b s t b s) (fun k => ?_) ?_
    · simp only [hatchwayref08_Same.f]
      simp
    · refine Ev.step (f := fun k => hatchwayref08_Same.l0 k ((0 : Nat) : Int) t b s t b s) (fun k => ?_) (same_loop n ih t b s hf (by omega) s.length 0 (by omega))
      simp [hatchwayref08_Same.j0]
mutual
theorem fit_of : ∀ (x : S43) {w : World} {cs : List Value}, k43.K w x cs → Fit x
  | ⟨t, b, s⟩, w, cs, h => by
    obtain ⟨A2, c2, _, _, hC⟩ := k43_open h
    simp only at hC
    simp only [Fit]
    refine ⟨hC.2.1, fits_of s fun p hp => ?_⟩
    obtain ⟨j, hj, rfl⟩ := List.mem_iff_getElem.1 hp
    obtain ⟨ad, _, hc⟩ := hC.2.2 (by omega)
    obtain ⟨c, _, hK, _⟩ := hc j _ (List.getElem?_eq_getElem hj)
    exact ⟨w, c, hK⟩
theorem fits_of : ∀ (s : List S43), (∀ p ∈ s, ∃ w cs, k43.K w p cs) → Fits s
  | [], _ => by simp [Fits]
  | x :: xs, h => by
    simp only [Fits]
    obtain ⟨w, cs, hK⟩ := h x List.mem_cons_self
    exact ⟨fit_of x hK, fits_of xs fun p hp => h p (List.mem_cons_of_mem _ hp)⟩
end
theorem fit_C {x : S43} {w : World} {A : Option Addr} (hC : Kd.C k43 w A x.f2.length x.f2) : Fit x := by
  cases x with
  | mk t b s =>
    simp only at hC
    simp only [Fit]
    refine ⟨hC.2.1, fits_of s fun p hp => ?_⟩
    obtain ⟨j, hj, rfl⟩ := List.mem_iff_getElem.1 hp
    obtain ⟨ad, _, hc⟩ := hC.2.2 (by omega)
    obtain ⟨c, _, hK, _⟩ := hc j _ (List.getElem?_eq_getElem hj)
    exact ⟨w, c, hK⟩
theorem szl_eq (s : List S43) : ∀ n, n ≤ 10000 → szl n s < 10000 → ∃ q, szl n s = n + q ∧ ((∀ y ∈ s, sz y < 10000 → (shw y).length + 1 ≤ 2 * sz y + 3 * cnt y) → ∀ f : Bool, (shws f s).length ≤ 2 * q + 3 * cnts s) := by
  induction s with
  | nil => intro n h1 h2; exact ⟨0, by simp [szl], fun _ f => by simp [shws]⟩
  | cons x xs ih =>
    intro n h1 h2
    simp only [szl] at h2
    have h3 := szl_le xs (min (n + sz x) 10000) (by omega)
    obtain ⟨q, e, hq⟩ := ih (min (n + sz x) 10000) (by omega) h2
    have h4 : n + sz x < 10000 := by omega
    refine ⟨sz x + q, by simp only [szl]; omega, fun hy f => ?_⟩
    have k1 := hy x List.mem_cons_self (by omega)
    have k2 := hq (fun y h => hy y (List.mem_cons_of_mem _ h)) false
    have k3 := cnt_pos x
    simp only [shws, cnts, List.length_append]
    cases f <;> simp <;> omega
theorem shw_len_n (n : Nat) : ∀ x, cnt x < n → sz x < 10000 → (shw x).length + 1 ≤ 2 * sz x + 3 * cnt x := by
  induction n with
  | zero => intro x h; omega
  | succ n ih =>
    rintro ⟨t, b, s⟩ h h2
    simp only [cnt] at h
    simp only [sz] at h2 ⊢
    obtain ⟨q, e, hq⟩ := szl_eq s (min t.size 10000) (by omega) h2
    have hq2 := hq (fun y hy h3 => ih y (by have := cnt_mem hy; omega) h3) true
    have h5 := cnt_pos ⟨t, b, s⟩
    simp only [cnt] at h5 ⊢
    rw [e]
    cases b
    · by_cases h0 : t.size = 0
      · rw [shw, if_neg (by simp), if_pos h0]; simp only [List.length_cons, List.length_nil]; omega
      · have hl : t.data.toList.length = t.size := by rw [Array.length_toList]; rfl
        rw [shw, if_neg (by simp), if_neg h0, hexs_len, hl]
        omega
    · rw [shw, if_pos rfl]
      simp only [List.length_cons, List.length_append, List.length_nil]
      omega
/-- an item that is not great has less than 1,200 items, and a line of no more than 16,000 bytes -/
theorem great_no {x : S43} (h : great x = false) : cnt x < 1200 ∧ (shw x).length ≤ 16000 := by
  simp only [great, Bool.or_eq_false_iff, decide_eq_false_iff_not] at h
  have := shw_len_n (cnt x + 1) x (by omega) (by omega)
  omega
end Go.Proofs.Ytkdkdjhdoplicaa.It
