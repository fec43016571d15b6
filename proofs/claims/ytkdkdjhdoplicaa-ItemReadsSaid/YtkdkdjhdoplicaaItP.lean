/- Plain: what the law's and the document's functions compute on trees. -/
import Derived.Test.YtkdkdjhdoplicaaItT
import Derived.Test.YtkdkdjhdoplicaaItH4
import Derived.Test.YtkdkdjhdoplicaaItH6
namespace Go.Proofs.Ytkdkdjhdoplicaa.It
open Go.RowKit Go.Proofs.YtkdkdjhdoplicaaW.PrintWords Go.Proofs.YtkdkdjhdoplicaaW.PrintLast Go.Proofs.YtkdkdjhdoplicaaW.PrintMore

mutual
/-- no list of it is longer than an int tells -/
def Fit : S43 → Prop
  | ⟨_, _, s⟩ => s.length ≤ 9223372036854775807 ∧ Fits s
def Fits : List S43 → Prop
  | [] => True
  | x :: xs => Fit x ∧ Fits xs
end
theorem Fits.get {s : List S43} (h : Fits s) {i : Nat} (hi : i < s.length) : Fit s[i] := by
  induction s generalizing i with
  | nil => simp at hi
  | cons x xs ih =>
    simp only [Fits] at h
    cases i with
    | zero => exact h.1
    | succ i => exact ih h.2 (by simpa using hi)
theorem wrap_nat {i n : Nat} (h : i < n) (hn : n ≤ 9223372036854775807) : wrap64 ((i : Int) + 1) = ((i + 1 : Nat) : Int) := by unfold wrap64; omega
theorem rd_get {s : List S43} {i : Nat} (h : i < s.length) : rd_T43 s (i : Int) = s[i] := by simp [rd_T43, List.getD_eq_getElem?_getD, h]
theorem cnt_get {s : List S43} {i : Nat} (h : i < s.length) : cnt s[i] ≤ cnts s := cnt_mem (List.getElem_mem h)
theorem cnts_drop {s : List S43} {i : Nat} (h : i < s.length) : cnts (s.drop i) = cnt s[i] + cnts (s.drop (i + 1)) := by rw [List.drop_eq_getElem_cons h, cnts]
theorem evq {α : Type} {g : Nat → Option α} {r r' : α} (h : Ev g r) (e : r = r') : Ev g r' := e ▸ h

theorem room_loop (n : Nat) (ih : ∀ (x : S43), cnt x < n → Fit x → ∀ L : Nat, 1 ≤ L → L ≤ 1200 → Ev (fun k => hatchwaylaw08_room.f k x.f0 x.f1 x.f2 (L : Int)) ((L - cnt x : Nat) : Int)) (t : ByteArray) (b : Bool) (s : List S43) (hs : Fit ⟨t, b, s⟩) (hc : cnts s < n) :
    ∀ (d i R : Nat), d + i = s.length → R ≤ 1200 → Ev (fun k => hatchwaylaw08_room.l0 k (R : Int) (i : Int) t b s) ((R - cnts (s.drop i) : Nat) : Int) := by
  intro d
  induction d with
  | zero =>
    intro i R hd hR
    refine Ev.step (f := fun _ => some (R : Int)) (fun k => ?_) (evq (Ev.now _) ?_)
    · simp only [hatchwaylaw08_room.l0]
      rw [if_neg (by omega), show mx (R : Int) 0 = (R : Int) by unfold mx; omega]
    · rw [List.drop_eq_nil_of_le (by omega)]; simp [cnts]
  | succ d ihd =>
    intro i R hd hR
    have hlt : i < s.length := by omega
    simp only [Fit] at hs
    have hw := wrap_nat hlt hs.1
    by_cases h0 : R = 0
    · refine Ev.step (f := fun _ => some 0) (fun k => ?_) (evq (Ev.now _) (by omega))
      simp only [hatchwaylaw08_room.l0]
      rw [if_pos (by omega), if_neg (by omega), h0]
      rfl
    · refine Ev.step (f := fun k => (hatchwaylaw08_room.f k s[i].f0 s[i].f1 s[i].f2 (R : Int)).bind fun q => hatchwaylaw08_room.l0 k q ((i + 1 : Nat) : Int) t b s) (fun k => ?_) ?_
      · simp only [hatchwaylaw08_room.l0]
        rw [if_pos (by omega), if_pos (by omega), if_pos (by omega), rd_get hlt, hw]
      · refine Ev.bind (ih s[i] (by have := cnt_get hlt; omega) (hs.2.get hlt) R (by omega) hR) ?_
        refine evq (ihd (i + 1) (R - cnt s[i]) (by omega) (by omega)) ?_
        rw [cnts_drop hlt]
        omega
theorem room_ev (n : Nat) : ∀ (x : S43), cnt x < n → Fit x → ∀ L : Nat, 1 ≤ L → L ≤ 1200 → Ev (fun k => hatchwaylaw08_room.f k x.f0 x.f1 x.f2 (L : Int)) ((L - cnt x : Nat) : Int) := by
  induction n with
  | zero => intro x h; omega
  | succ n ih =>
    rintro ⟨t, b, s⟩ hx hf L h1 h2
    refine Ev.step (f := fun k => hatchwaylaw08_room.l0 k ((L - 1 : Nat) : Int) ((0 : Nat) : Int) t b s) (fun k => ?_) ?_
    · simp only [hatchwaylaw08_room.f]
      rw [show wrap64 ((L : Int) - 1) = ((L - 1 : Nat) : Int) by unfold wrap64; omega]
      rfl
    · simp only [cnt] at hx ⊢
      refine evq (room_loop n ih t b s hf (by omega) s.length 0 (L - 1) (by omega) (by omega)) ?_
      rw [List.drop_zero]
      omega

mutual
def sz : S43 → Nat
  | ⟨t, _, s⟩ => szl (min t.size 10000) s
def szl : Nat → List S43 → Nat
  | n, [] => n
  | n, x :: xs => szl (min (n + sz x) 10000) xs
end
theorem szl_le (s : List S43) : ∀ n, n ≤ 10000 → szl n s ≤ 10000 := by
  induction s with
  | nil => intro n h; simpa [szl] using h
  | cons x xs ih => intro n h; simp only [szl]; exact ih _ (by omega)
theorem sz_le (x : S43) : sz x ≤ 10000 := by cases x; simp only [sz]; exact szl_le _ _ (by omega)
theorem size_loop (n : Nat) (ih : ∀ (x : S43), cnt x < n → Fit x → Ev (fun k => hatchwaylaw08_size.f k x.f0 x.f1 x.f2) ((sz x : Nat) : Int)) (t : ByteArray) (b : Bool) (s : List S43) (hs : Fit ⟨t, b, s⟩) (hc : cnts s < n) :
    ∀ (d i R : Nat), d + i = s.length → R ≤ 10000 → Ev (fun k => hatchwaylaw08_size.l0 k (R : Int) (i : Int) t b s) ((szl R (s.drop i) : Nat) : Int) := by
  intro d
  induction d with
  | zero =>
    intro i R hd hR
    refine Ev.step (f := fun _ => some (R : Int)) (fun k => ?_) (evq (Ev.now _) ?_)
    · simp only [hatchwaylaw08_size.l0]
      rw [if_neg (by omega)]
    · rw [List.drop_eq_nil_of_le (by omega)]; simp [szl]
  | succ d ihd =>
    intro i R hd hR
    have hlt : i < s.length := by omega
    simp only [Fit] at hs
    have hw := wrap_nat hlt hs.1
    have hz := sz_le s[i]
    refine Ev.step (f := fun k => (hatchwaylaw08_size.f k s[i].f0 s[i].f1 s[i].f2).bind fun q => hatchwaylaw08_size.l0 k (mn (wrap64 ((R : Int) + q)) 10000) ((i + 1 : Nat) : Int) t b s) (fun k => ?_) ?_
    · simp only [hatchwaylaw08_size.l0]
      rw [if_pos (by omega), if_pos (by omega), rd_get hlt, hw]
    · refine Ev.bind (ih s[i] (by have := cnt_get hlt; omega) (hs.2.get hlt)) ?_
      have e : mn (wrap64 ((R : Int) + (sz s[i] : Nat))) 10000 = ((min (R + sz s[i]) 10000 : Nat) : Int) := by
        rw [show wrap64 ((R : Int) + (sz s[i] : Nat)) = ((R + sz s[i] : Nat) : Int) by unfold wrap64; omega]
        unfold mn
        omega
      rw [e]
      refine evq (ihd (i + 1) (min (R + sz s[i]) 10000) (by omega) (by omega)) ?_
      rw [List.drop_eq_getElem_cons hlt, szl]
theorem size_ev (n : Nat) : ∀ (x : S43), cnt x < n → Fit x → Ev (fun k => hatchwaylaw08_size.f k x.f0 x.f1 x.f2) ((sz x : Nat) : Int) := by
  induction n with
  | zero => intro x h; omega
  | succ n ih =>
    rintro ⟨t, b, s⟩ hx hf
    simp only [cnt] at hx
    refine Ev.step (f := fun k => hatchwaylaw08_size.l0 k ((min t.size 10000 : Nat) : Int) ((0 : Nat) : Int) t b s) (fun k => ?_) ?_
    · simp only [hatchwaylaw08_size.f]
      rw [show mn (t.size : Int) 10000 = ((min t.size 10000 : Nat) : Int) by unfold mn; omega]
      rfl
    · refine evq (size_loop n ih t b s hf (by omega) s.length 0 (min t.size 10000) (by omega) (by omega)) ?_
      rw [List.drop_zero, sz]
def great (x : S43) : Bool := decide (1200 ≤ cnt x) || decide (6000 < sz x)
theorem great_ev (x : S43) (hf : Fit x) : Ev (fun k => hatchwaylaw08_Great.f k x.f0 x.f1 x.f2) (great x) := by
  unfold hatchwaylaw08_Great.f
  refine Ev.bind (room_ev (cnt x + 1) x (by omega) hf 1200 (by omega) (by omega)) ?_
  by_cases h : 1200 ≤ cnt x
  · exact Ev.congr (f := fun _ => some true) (fun k => if_pos (by omega)) (evq (Ev.now _) (by simp [great, h]))
  · refine Ev.congr (fun k => if_neg (by omega)) ?_
    refine Ev.bind (size_ev (cnt x + 1) x (by omega) hf) (evq (Ev.now _) ?_)
    simp only [great, h, decide_false, Bool.false_or]
    rw [decide_eq_decide]
    omega

theorem right_loop (n : Nat) (ih : ∀ (x : S43), cnt x < n → Fit x → Ev (fun k => hatchwayref08_right.f k x.f0 x.f1 x.f2) (right x)) (t : ByteArray) (b : Bool) (s : List S43) (hs : Fit ⟨t, b, s⟩) (hc : cnts s < n) :
    ∀ (d i : Nat), d + i = s.length → Ev (fun k => hatchwayref08_right.l0 k (i : Int) t b s) (rights (s.drop i)) := by
  intro d
  induction d with
  | zero =>
    intro i hd
    refine Ev.step (f := fun _ => some true) (fun k => ?_) (evq (Ev.now _) ?_)
    · simp only [hatchwayref08_right.l0]
      rw [if_neg (by omega)]
    · rw [List.drop_eq_nil_of_le (by omega)]; simp [rights]
  | succ d ihd =>
    intro i hd
    have hlt : i < s.length := by omega
    simp only [Fit] at hs
    have hw := wrap_nat hlt hs.1
    refine Ev.step (f := fun k => (hatchwayref08_right.f k s[i].f0 s[i].f1 s[i].f2).bind fun q => if q = true then hatchwayref08_right.l0 k ((i + 1 : Nat) : Int) t b s else some false) (fun k => ?_) ?_
    · simp only [hatchwayref08_right.l0]
      rw [if_pos (by omega), if_pos (by omega), rd_get hlt, hw]
    · refine Ev.bind (ih s[i] (by have := cnt_get hlt; omega) (hs.2.get hlt)) ?_
      rw [List.drop_eq_getElem_cons hlt, rights]
      cases right s[i]
      · exact evq (Ev.now _) (by simp)
      · simpa using ihd (i + 1) (by omega)
theorem toList_nil_iff (t : ByteArray) : t.toList = ([] : List UInt8) ↔ t.size = 0 := by
  rw [Go.Lib.toList_data]
  constructor
  · intro e
    show t.data.size = 0
    rw [← Array.length_toList, e]
    rfl
  · intro e
    have : t.data.toList.length = 0 := by rw [Array.length_toList]; exact e
    exact List.eq_nil_of_length_eq_zero this
theorem right_ev (n : Nat) : ∀ (x : S43), cnt x < n → Fit x → Ev (fun k => hatchwayref08_right.f k x.f0 x.f1 x.f2) (right x) := by
  induction n with
  | zero => intro x h; omega
  | succ n ih =>
    rintro ⟨t, b, s⟩ hx hf
    simp only [cnt] at hx
    refine Ev.step (f := fun k => hatchwayref08_right.j0 k (!flat t b s) t b s) (fun k => ?_) ?_
    · simp only [hatchwayref08_right.f, flat]
      cases b
      · simp only [Bool.false_eq_true, if_false]
        congr 1
        by_cases h : s.length = 0 <;> simp [h]
        omega
      · simp only [if_true]
        by_cases h : t.size = 0
        · rw [if_pos ((toList_nil_iff t).2 h)]; simp [h]
        · rw [if_neg (fun e => h ((toList_nil_iff t).1 e))]; simp [h]
    · rw [right]
      cases hfl : flat t b s
      · refine Ev.step (f := fun _ => some false) (fun k => ?_) (evq (Ev.now _) (by simp))
        simp [hatchwayref08_right.j0]
      · refine Ev.step (f := fun k => hatchwayref08_right.l0 k ((0 : Nat) : Int) t b s) (fun k => ?_) ?_
        · simp [hatchwayref08_right.j0]
        · refine evq (right_loop n ih t b s hf (by omega) s.length 0 (by omega)) ?_
          simp

theorem dps_le (s : List S43) (h : ∀ y ∈ s, dp y ≤ cnt y) : dps s ≤ cnts s := by
  induction s with
  | nil => simp [dps]
  | cons x xs ih =>
    have h1 := h x List.mem_cons_self
    have h2 := ih (fun y hy => h y (List.mem_cons_of_mem _ hy))
    simp only [dps, cnts]
    omega
theorem dp_le_n (n : Nat) : ∀ x, cnt x < n → dp x ≤ cnt x := by
  induction n with
  | zero => intro x h; omega
  | succ n ih =>
    rintro ⟨t, b, s⟩ h
    simp only [cnt] at h
    have := dps_le s (fun y hy => ih y (by have := cnt_mem hy; omega))
    simp only [dp, cnt]
    omega
theorem dp_le (x : S43) : dp x ≤ cnt x := dp_le_n _ x (Nat.lt_succ_self _)
theorem dps_get {s : List S43} {i : Nat} (h : i < s.length) : dps (s.drop i) = max (dp s[i]) (dps (s.drop (i + 1))) := by rw [List.drop_eq_getElem_cons h, dps]
theorem deep_loop (n : Nat) (ih : ∀ (x : S43), cnt x < n → Fit x → cnt x ≤ 1000000 → Ev (fun k => hatchwayref08_Deep.f k x.f0 x.f1 x.f2) ((dp x : Nat) : Int)) (t : ByteArray) (b : Bool) (s : List S43) (hs : Fit ⟨t, b, s⟩) (hc : cnts s < n) (hm : cnts s ≤ 1000000) :
    ∀ (d i R : Nat), d + i = s.length → R ≤ 1000000 → Ev (fun k => hatchwayref08_Deep.l0 k (R : Int) (i : Int) t b s) ((1 + max R (dps (s.drop i)) : Nat) : Int) := by
  intro d
  induction d with
  | zero =>
    intro i R hd hR
    refine Ev.step (f := fun _ => some ((1 + R : Nat) : Int)) (fun k => ?_) (evq (Ev.now _) ?_)
    · simp only [hatchwayref08_Deep.l0]
      rw [if_neg (by omega), show wrap64 ((R : Int) + 1) = ((1 + R : Nat) : Int) by unfold wrap64; omega]
    · rw [List.drop_eq_nil_of_le (by omega)]; simp [dps]
  | succ d ihd =>
    intro i R hd hR
    have hlt : i < s.length := by omega
    simp only [Fit] at hs
    have hw := wrap_nat hlt hs.1
    have hg := cnt_get hlt
    have hz := dp_le s[i]
    refine Ev.step (f := fun k => (hatchwayref08_Deep.f k s[i].f0 s[i].f1 s[i].f2).bind fun q => if q > (R : Int) then hatchwayref08_Deep.l0 k q ((i + 1 : Nat) : Int) t b s else hatchwayref08_Deep.l0 k (R : Int) ((i + 1 : Nat) : Int) t b s) (fun k => ?_) ?_
    · simp only [hatchwayref08_Deep.l0]
      rw [if_pos (by omega), if_pos (by omega), rd_get hlt, hw]
    · refine Ev.bind (ih s[i] (by omega) (hs.2.get hlt) (by omega)) ?_
      rw [dps_get hlt]
      by_cases h : R < dp s[i]
      · refine Ev.congr (fun k => if_pos (by omega)) (evq (ihd (i + 1) (dp s[i]) (by omega) (by omega)) ?_)
        omega
      · refine Ev.congr (fun k => if_neg (by omega)) (evq (ihd (i + 1) R (by omega) hR) ?_)
        omega
theorem deep_ev (n : Nat) : ∀ (x : S43), cnt x < n → Fit x → cnt x ≤ 1000000 → Ev (fun k => hatchwayref08_Deep.f k x.f0 x.f1 x.f2) ((dp x : Nat) : Int) := by
  induction n with
  | zero => intro x h; omega
  | succ n ih =>
    rintro ⟨t, b, s⟩ hx hf hm
    simp only [cnt] at hx hm
    refine Ev.step (f := fun k => hatchwayref08_Deep.l0 k ((0 : Nat) : Int) ((0 : Nat) : Int) t b s) (fun k => ?_) ?_
    · simp only [hatchwayref08_Deep.f]
      rfl
    · refine evq (deep_loop n ih t b s hf (by omega) (by omega) s.length 0 0 (by omega) (by omega)) ?_
      rw [List.drop_zero, dp]
      omega
theorem count_loop (n : Nat) (ih : ∀ (x : S43), cnt x < n → Fit x → cnt x ≤ 1000000 → Ev (fun k => hatchwayref08_Count.f k x.f0 x.f1 x.f2) ((cnt x : Nat) : Int)) (t : ByteArray) (b : Bool) (s : List S43) (hs : Fit ⟨t, b, s⟩) (hc : cnts s < n) (hm : cnts s ≤ 1000000) :
    ∀ (d i R : Nat), d + i = s.length → R + cnts (s.drop i) ≤ 2000000 → Ev (fun k => hatchwayref08_Count.l0 k (R : Int) (i : Int) t b s) ((R + cnts (s.drop i) : Nat) : Int) := by
  intro d
  induction d with
  | zero =>
    intro i R hd hR
    refine Ev.step (f := fun _ => some (R : Int)) (fun k => ?_) (evq (Ev.now _) ?_)
    · simp only [hatchwayref08_Count.l0]
      rw [if_neg (by omega)]
    · rw [List.drop_eq_nil_of_le (by omega)]; simp [cnts]
  | succ d ihd =>
    intro i R hd hR
    have hlt : i < s.length := by omega
    simp only [Fit] at hs
    have hw := wrap_nat hlt hs.1
    have hg := cnt_get hlt
    have hdr := cnts_drop hlt
    refine Ev.step (f := fun k => (hatchwayref08_Count.f k s[i].f0 s[i].f1 s[i].f2).bind fun q => hatchwayref08_Count.l0 k (wrap64 ((R : Int) + q)) ((i + 1 : Nat) : Int) t b s) (fun k => ?_) ?_
    · simp only [hatchwayref08_Count.l0]
      rw [if_pos (by omega), if_pos (by omega), rd_get hlt, hw]
    · refine Ev.bind (ih s[i] (by omega) (hs.2.get hlt) (by omega)) ?_
      rw [show wrap64 ((R : Int) + (cnt s[i] : Nat)) = ((R + cnt s[i] : Nat) : Int) by unfold wrap64; omega]
      refine evq (ihd (i + 1) (R + cnt s[i]) (by omega) (by omega)) ?_
      omega
theorem count_ev (n : Nat) : ∀ (x : S43), cnt x < n → Fit x → cnt x ≤ 1000000 → Ev (fun k => hatchwayref08_Count.f k x.f0 x.f1 x.f2) ((cnt x : Nat) : Int) := by
  induction n with
  | zero => intro x h; omega
  | succ n ih =>
    rintro ⟨t, b, s⟩ hx hf hm
    simp only [cnt] at hx hm
    refine Ev.step (f := fun k => hatchwayref08_Count.l0 k ((1 : Nat) : Int) ((0 : Nat) : Int) t b s) (fun k => ?_) ?_
    · simp only [hatchwayref08_Count.f]
      rfl
    · refine evq (count_loop n ih t b s hf (by omega) (by omega) s.length 0 1 (by omega) (by rw [List.drop_zero]; omega)) ?_
      rw [List.drop_zero, cnt]
theorem may_ev (x : S43) (hf : Fit x) (hm : cnt x ≤ 1000000) : Ev (fun k => hatchwayref08_May.f k x.f0 x.f1 x.f2) (may x) := by
  unfold hatchwayref08_May.f may
  refine Ev.bind (right_ev _ x (Nat.lt_succ_self _) hf) ?_
  cases right x
  · exact Ev.congr (f := fun _ => some false) (fun k => if_neg (by simp)) (evq (Ev.now _) (by simp))
  · refine Ev.congr (fun k => if_pos rfl) ?_
    refine Ev.bind (deep_ev _ x (Nat.lt_succ_self _) hf hm) ?_
    by_cases h : dp x ≤ 16
    · refine Ev.congr (fun k => if_pos (by omega)) ?_
      refine Ev.bind (count_ev _ x (Nat.lt_succ_self _) hf hm) (evq (Ev.now _) ?_)
      simp only [h, decide_true, Bool.true_and]
      rw [decide_eq_decide]
      omega
    · exact Ev.congr (f := fun _ => some false) (fun k => if_neg (by omega)) (evq (Ev.now _) (by simp [h]))
end Go.Proofs.Ytkdkdjhdoplicaa.It
