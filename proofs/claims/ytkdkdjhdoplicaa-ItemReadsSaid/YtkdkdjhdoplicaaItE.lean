/- Plain: the document's parse: it ends; what it tells is an item's line; the line of an item is told as it. -/
import Derived.Test.YtkdkdjhdoplicaaItD
import Derived.Test.YtkdkdjhdoplicaaItH5
import Derived.Test.YtkdkdjhdoplicaaItH6
namespace Go.Proofs.Ytkdkdjhdoplicaa.It
open Go.RowKit Go.Proofs.YtkdkdjhdoplicaaW.PrintWords Go.Proofs.YtkdkdjhdoplicaaW.PrintLast Go.Proofs.YtkdkdjhdoplicaaW.PrintMore

abbrev dl : List UInt8 := [48, 49, 50, 51, 52, 53, 54, 55, 56, 57, 97, 98, 99, 100, 101, 102]
def dv (v : Int) (i : Nat) : Int := if v = -1 then -1 else v + (i : Int)
theorem digit_loop (c : UInt8) : ∀ d i : Nat, d + i = 16 → Ev (fun k => hatchwayref08_digit.l0 k (c.toNat : Int) (i : Int)) (dv (Go.Lib.indexByte (dl.drop i) c) i) := by
  intro d
  induction d with
  | zero =>
    intro i hi
    obtain rfl : i = 16 := by omega
    refine Ev.step (f := fun _ => some (-1)) (fun k => ?_) (Ev.now _)
    simp only [hatchwayref08_digit.l0]
    rw [if_neg (by decide)]
  | succ d ih =>
    intro i hi
    have hlt : i < dl.length := by show i < 16; omega
    have hb : bt (⟨#[48, 49, 50, 51, 52, 53, 54, 55, 56, 57, 97, 98, 99, 100, 101, 102]⟩ : ByteArray) (i : Int) = ((dl[i]'hlt).toNat : Int) := bt_bs (l := dl) hlt
    have c1 : (i : Int) < 16 := by omega
    have c2 : (0 : Int) ≤ (i : Int) := by omega
    have h9 : i ≤ 1000000000 := by omega
    have hih := ih (i + 1) (by omega)
    by_cases e : dl[i]'hlt = c
    · have hv : Go.Lib.indexByte (dl.drop i) c = 0 := by rw [List.drop_eq_getElem_cons hlt, Go.Lib.indexByte, if_pos (by simp [e])]
      rw [hv]
      refine Ev.step (f := fun _ => some (i : Int)) (fun k => ?_) (evq (Ev.now _) (by simp [dv]))
      simp only [hatchwayref08_digit.l0]
      rw [if_pos c1, if_pos c2, hb, e, if_pos rfl]
    · have hv : Go.Lib.indexByte (dl.drop i) c = if Go.Lib.indexByte (dl.drop (i + 1)) c == -1 then -1 else Go.Lib.indexByte (dl.drop (i + 1)) c + 1 := by rw [List.drop_eq_getElem_cons hlt, Go.Lib.indexByte, if_neg (by simp [e])]
      have ne : ¬ ((dl[i]'hlt).toNat : Int) = (c.toNat : Int) := fun h => e (UInt8.toNat_inj.1 (by omega))
      refine Ev.step (f := fun k => hatchwayref08_digit.l0 k (c.toNat : Int) ((i + 1 : Nat) : Int)) (fun k => ?_) (evq hih ?_)
      · simp only [hatchwayref08_digit.l0]
        rw [if_pos c1, if_pos c2, hb, if_neg ne, wid1 i h9]
      · rw [hv]
        rcases index_spec c (dl.drop (i + 1)) with ⟨h1, _⟩ | ⟨q, _, h1, _⟩
        · rw [h1]; rfl
        · have hq : ¬ ((q : Int) == -1) = true := by intro e2; have := of_decide_eq_true e2; omega
          rw [h1, if_neg hq, dv, dv, if_neg (by omega), if_neg (by omega)]
          omega
theorem digit_ev (c : UInt8) : Ev (fun k => hatchwayref08_digit.f k (c.toNat : Int)) (hx c) := by
  refine evq (digit_loop c 16 0 rfl) ?_
  show dv (hx c) 0 = hx c
  by_cases h : hx c = -1
  · rw [dv, if_pos h, h]
  · rw [dv, if_neg h]; simp
/-- no two digits stand ahead -/
def stop : List UInt8 → Prop
  | x :: y :: _ => hx x = -1 ∨ hx y = -1
  | _ => True
theorem stop_sep {r : List UInt8} (h : sep r) : stop r := by
  match r, h with
  | [], _ => trivial
  | [_], _ => trivial
  | x :: y :: r', h =>
    refine .inl ?_
    rcases h with h | h | h
    · cases h
    · cases h; rfl
    · cases h; rfl
theorem decomp (N : Nat) : ∀ l : List UInt8, l.length < N → ∃ ts r, l = hexs ts ++ r ∧ stop r := by
  induction N with
  | zero => intro l h; omega
  | succ N ih =>
    intro l hN
    match l, hN with
    | [], _ => exact ⟨[], [], rfl, trivial⟩
    | [x], _ => exact ⟨[], [x], rfl, trivial⟩
    | x :: y :: l', hN =>
      rcases hx_all x with h | ⟨q, hq, _, hxd⟩
      · exact ⟨[], x :: y :: l', rfl, .inl h⟩
      · rcases hx_all y with h | ⟨r, hr, _, hyd⟩
        · exact ⟨[], x :: y :: l', rfl, .inr h⟩
        · obtain ⟨c, c3, _⟩ := byte_dig hq hr hxd hyd
          obtain ⟨ts, r', e, hs⟩ := ih l' (by simp only [List.length_cons] at hN; omega)
          refine ⟨c :: ts, r', ?_, hs⟩
          have : hexs (c :: ts) = hexs [c] ++ hexs ts := by rw [← hexs_append]; rfl
          rw [this, c3, e]
          simp
theorem drop_get {l : List UInt8} {at_ : Nat} {x : UInt8} {r : List UInt8} (h : l.drop at_ = x :: r) : ∃ hlt : at_ < l.length, l[at_]'hlt = x ∧ l.drop (at_ + 1) = r := by
  have hlt : at_ < l.length := by
    rcases Nat.lt_or_ge at_ l.length with h1 | h1
    · exact h1
    · rw [List.drop_eq_nil_of_le h1] at h; cases h
  rw [List.drop_eq_getElem_cons hlt] at h
  injection h with h1 h2
  exact ⟨hlt, h1, h2⟩
theorem drop_len {l r : List UInt8} {at_ : Nat} (h : l.drop at_ = r) (ha : at_ ≤ l.length) : at_ + r.length = l.length := by
  rw [← h, List.length_drop]; omega
/-- the digits that stand at a place -/
theorem ptext (l : List UInt8) (hl : l.length ≤ 4000) (r : List UInt8) (hr : stop r) : ∀ (ts : List UInt8) (at_ : Nat) (a : List UInt8), at_ ≤ l.length → l.drop at_ = hexs ts ++ r → a.length ≤ at_ →
    Ev (fun k => hatchwayref08_parse.l0 k (bs l) (at_ : Int) (a.map fun c => (c.toNat : Int))) (if a ++ ts = [] then (⟨#[]⟩, false, [], -1) else (bs (a ++ ts), false, [], ((at_ + 2 * ts.length : Nat) : Int))) := by
  intro ts
  induction ts with
  | nil =>
    intro at_ a hat hd hal
    rw [hexs, List.nil_append] at hd
    have hlen := drop_len hd hat
    have h9 : at_ ≤ 1000000000 := by omega
    have c1 : (0 : Int) ≤ (at_ : Int) := by omega
    have hend : Ev (fun k => hatchwayref08_parse.j2 k (bs l) (at_ : Int) (a.map fun c => (c.toNat : Int)) false) (if a ++ [] = [] then (⟨#[]⟩, false, [], -1) else (bs (a ++ []), false, [], ((at_ + 2 * ([] : List UInt8).length : Nat) : Int))) := by
      rw [List.append_nil]
      refine Ev.step (f := fun _ => some (if a = [] then (⟨#[]⟩, false, [], -1) else (bs a, false, [], (at_ : Int)))) (fun k => ?_) (Ev.now _)
      simp only [hatchwayref08_parse.j2]
      rw [if_neg (by decide), nums_bs]
      cases a with
      | nil => rfl
      | cons c a =>
        rw [if_neg (by simp only [List.map_cons, List.length_cons]; omega), if_neg (by simp)]
    by_cases h2 : 2 ≤ r.length
    · match r, h2, hr, hd, hlen with
      | x :: y :: r', _, hr, hd, hlen =>
        simp only [List.length_cons] at hlen
        obtain ⟨g0, e0, hd1⟩ := drop_get hd
        obtain ⟨g1, e1, _⟩ := drop_get hd1
        have f0 : bt (bs l) (at_ : Int) = (x.toNat : Int) := by rw [bt_bs g0, e0]
        have f1 : bt (bs l) ((at_ + 1 : Nat) : Int) = (y.toNat : Int) := by rw [bt_bs g1, e1]
        have c2 : ((at_ + 1 : Nat) : Int) < ((bs l).size : Int) := by rw [bs_size]; omega
        have c3 : (at_ : Int) < ((bs l).size : Int) := by rw [bs_size]; omega
        have c4 : (0 : Int) ≤ ((at_ + 1 : Nat) : Int) := by omega
        refine Ev.step (f := fun k => (hatchwayref08_digit.f k (x.toNat : Int)).bind fun p => if p ≥ 0 then (hatchwayref08_digit.f k (y.toNat : Int)).bind fun q => hatchwayref08_parse.j2 k (bs l) (at_ : Int) (a.map fun c => (c.toNat : Int)) (decide (q ≥ 0)) else hatchwayref08_parse.j2 k (bs l) (at_ : Int) (a.map fun c => (c.toNat : Int)) false) (fun k => ?_) ?_
        · simp only [hatchwayref08_parse.l0]
          rw [wid1 at_ h9, if_pos c2, if_pos c1, if_pos c3, f0, if_pos c4, f1]
        · refine Ev.bind (digit_ev x) ?_
          rcases hx_all x with hxn | ⟨q, hq, hxq, _⟩
          · exact Ev.congr (fun k => if_neg (by rw [hxn]; decide)) hend
          · refine Ev.congr (fun k => if_pos (by rw [hxq]; omega)) (Ev.bind (digit_ev y) ?_)
            rcases hr with hr | hr
            · rw [hr] at hxq; omega
            · rw [hr]; exact hend
    · have c2 : ¬ ((at_ + 1 : Nat) : Int) < ((bs l).size : Int) := by rw [bs_size]; omega
      refine Ev.step (fun k => ?_) hend
      simp only [hatchwayref08_parse.l0]
      rw [wid1 at_ h9, if_neg c2]
  | cons c ts ih =>
    intro at_ a hat hd hal
    have q1 : c.toNat / 16 < 16 := by have := c.toNat_lt; omega
    have q2 : c.toNat % 16 < 16 := by omega
    have h9 : at_ ≤ 1000000000 := by omega
    simp only [hexs, List.cons_append] at hd
    have hlen := drop_len hd hat
    simp only [List.length_cons] at hlen
    obtain ⟨g0, e0, hd1⟩ := drop_get hd
    obtain ⟨g1, e1, hd2⟩ := drop_get hd1
    have f0 : bt (bs l) (at_ : Int) = ((dig (c.toNat / 16)).toNat : Int) := by rw [bt_bs g0, e0]
    have f1 : bt (bs l) ((at_ + 1 : Nat) : Int) = ((dig (c.toNat % 16)).toNat : Int) := by rw [bt_bs g1, e1]
    have c1 : (0 : Int) ≤ (at_ : Int) := by omega
    have c2 : ((at_ + 1 : Nat) : Int) < ((bs l).size : Int) := by rw [bs_size]; omega
    have c3 : (at_ : Int) < ((bs l).size : Int) := by rw [bs_size]; omega
    have c4 : (0 : Int) ≤ ((at_ + 1 : Nat) : Int) := by omega
    have hlen2 : (a.map fun c => (c.toNat : Int)).length < 140737488355328 := by rw [List.length_map]; omega
    have hih := ih (at_ + 2) (a ++ [c]) (by omega) hd2 (by simp only [List.length_append, List.length_cons, List.length_nil]; omega)
    have w2 : Aside0 (wrap64 ((at_ : Int) + 2) = ((at_ + 2 : Nat) : Int)) := ⟨by unfold wrap64; omega⟩
    refine Ev.step (f := fun k => (hatchwayref08_digit.f k ((dig (c.toNat / 16)).toNat : Int)).bind fun p => if p ≥ 0 then (hatchwayref08_digit.f k ((dig (c.toNat % 16)).toNat : Int)).bind fun q => hatchwayref08_parse.j2 k (bs l) (at_ : Int) (a.map fun c => (c.toNat : Int)) (decide (q ≥ 0)) else hatchwayref08_parse.j2 k (bs l) (at_ : Int) (a.map fun c => (c.toNat : Int)) false) (fun k => ?_) ?_
    · simp only [hatchwayref08_parse.l0]
      rw [wid1 at_ h9, if_pos c2, if_pos c1, if_pos c3, f0, if_pos c4, f1]
    · refine Ev.bind (digit_ev _) ?_
      rw [hx_dig _ q1]
      refine Ev.congr (fun k => if_pos (by omega)) (Ev.bind (digit_ev _) ?_)
      rw [hx_dig _ q2, decide_eq_true (show ((c.toNat % 16 : Nat) : Int) ≥ 0 by omega)]
      refine Ev.step (f := fun k => (hatchwayref08_digit.f k ((dig (c.toNat / 16)).toNat : Int)).bind fun p => (hatchwayref08_digit.f k ((dig (c.toNat % 16)).toNat : Int)).bind fun q => hatchwayref08_parse.l0 k (bs l) ((at_ + 2 : Nat) : Int) ((a.map fun c => (c.toNat : Int)) ++ [(wrap64 ((wrap64 (16 * p)) + q)) % 256])) (fun k => ?_) ?_
      · simp only [hatchwayref08_parse.j2]
        rw [if_pos trivial, if_pos c1, if_pos c3, wid1 at_ h9, f0]
        simp only [if_pos c4, if_pos c2, f1, w2.out, if_pos hlen2]
      · refine Ev.bind (digit_ev _) (Ev.bind (digit_ev _) ?_)
        rw [hx_dig _ q1, hx_dig _ q2, pair_val]
        rw [List.map_append, List.append_assoc] at hih
        refine evq hih ?_
        simp only [List.cons_append, List.nil_append, List.length_cons]
        rw [show at_ + 2 + 2 * ts.length = at_ + 2 * (ts.length + 1) by omega]

abbrev PR := ByteArray × Bool × List S43 × Int
def pno : PR := (⟨#[]⟩, false, [], -1)
theorem p_end (l : List UInt8) (d : Nat) : Ev (fun k => hatchwayref08_parse.f k (bs l) ((l.length : Nat) : Int) (d : Int)) pno := by
  refine Ev.step (f := fun k => hatchwayref08_parse.j0 k (bs l) ((l.length : Nat) : Int) (d : Int) true) (fun k => ?_) ?_
  · simp only [hatchwayref08_parse.f]
    rw [if_pos (by rw [bs_size]; omega)]
  · refine Ev.step (f := fun _ => some pno) (fun k => ?_) (Ev.now _)
    simp only [hatchwayref08_parse.j0]
    rw [if_pos trivial]
    rfl
theorem p_deep (l : List UInt8) (at_ d : Nat) (hlt : at_ < l.length) (hd : 16 < d) : Ev (fun k => hatchwayref08_parse.f k (bs l) (at_ : Int) (d : Int)) pno := by
  refine Ev.step (f := fun k => hatchwayref08_parse.j0 k (bs l) (at_ : Int) (d : Int) true) (fun k => ?_) ?_
  · simp only [hatchwayref08_parse.f]
    rw [if_neg (by rw [bs_size]; omega), decide_eq_true (by omega)]
  · refine Ev.step (f := fun _ => some pno) (fun k => ?_) (Ev.now _)
    simp only [hatchwayref08_parse.j0]
    rw [if_pos trivial]
    rfl
theorem p_go (l : List UInt8) (at_ d : Nat) (hlt : at_ < l.length) (hd : d ≤ 16) (R : PR) (h : Ev (fun k => hatchwayref08_parse.j0 k (bs l) (at_ : Int) (d : Int) false) R) : Ev (fun k => hatchwayref08_parse.f k (bs l) (at_ : Int) (d : Int)) R := by
  refine Ev.step (fun k => ?_) h
  simp only [hatchwayref08_parse.f]
  rw [if_neg (by rw [bs_size]; omega), decide_eq_false (by omega)]
theorem p_dash (l : List UInt8) (at_ d : Nat) (hlt : at_ < l.length) (hd : d ≤ 16) (hl : l.length ≤ 4000) (hc : l[at_] = 45) : Ev (fun k => hatchwayref08_parse.f k (bs l) (at_ : Int) (d : Int)) (⟨#[]⟩, false, [], ((at_ + 1 : Nat) : Int)) := by
  have h9 : at_ ≤ 1000000000 := by omega
  have c1 : (at_ : Int) < ((bs l).size : Int) := by rw [bs_size]; omega
  refine p_go l at_ d hlt hd _ (Ev.step (f := fun _ => some (⟨#[]⟩, false, [], ((at_ + 1 : Nat) : Int))) (fun k => ?_) (Ev.now _))
  simp only [hatchwayref08_parse.j0]
  rw [if_neg (by decide), if_pos (Int.natCast_nonneg at_), if_pos c1, bt_bs hlt, hc, if_pos (by decide), wid1 at_ h9]
theorem p_list (l : List UInt8) (at_ d : Nat) (hlt : at_ < l.length) (hd : d ≤ 16) (hl : l.length ≤ 4000) (hc : l[at_] = 40) (R : PR) (h : Ev (fun k => hatchwayref08_parse.l1 k (bs l) ((at_ + 1 : Nat) : Int) (d : Int) ⟨#[]⟩ true []) R) : Ev (fun k => hatchwayref08_parse.f k (bs l) (at_ : Int) (d : Int)) R := by
  have h9 : at_ ≤ 1000000000 := by omega
  have c1 : (at_ : Int) < ((bs l).size : Int) := by rw [bs_size]; omega
  refine p_go l at_ d hlt hd _ (Ev.step (fun k => ?_) h)
  simp only [hatchwayref08_parse.j0]
  rw [if_neg (by decide), if_pos (Int.natCast_nonneg at_), if_pos c1, bt_bs hlt, hc, if_neg (by decide), if_pos (by decide), wid1 at_ h9]
theorem p_text (l : List UInt8) (at_ d : Nat) (hlt : at_ < l.length) (hd : d ≤ 16) (hc1 : l[at_] ≠ 45) (hc2 : l[at_] ≠ 40) (R : PR) (h : Ev (fun k => hatchwayref08_parse.l0 k (bs l) (at_ : Int) []) R) : Ev (fun k => hatchwayref08_parse.f k (bs l) (at_ : Int) (d : Int)) R := by
  have c1 : (at_ : Int) < ((bs l).size : Int) := by rw [bs_size]; omega
  have n1 : ¬ ((l[at_].toNat : Nat) : Int) = 45 := fun e => hc1 (UInt8.toNat_inj.1 (by show l[at_].toNat = 45; omega))
  have n2 : ¬ ((l[at_].toNat : Nat) : Int) = 40 := fun e => hc2 (UInt8.toNat_inj.1 (by show l[at_].toNat = 40; omega))
  refine p_go l at_ d hlt hd _ (Ev.step (fun k => ?_) h)
  simp only [hatchwayref08_parse.j0]
  rw [if_neg (by decide), if_pos (Int.natCast_nonneg at_), if_pos c1, bt_bs hlt, if_neg n1, if_neg n2]
theorem q_end (l : List UInt8) (d : Int) (t : ByteArray) (b : Bool) (out : List S43) : Ev (fun k => hatchwayref08_parse.l1 k (bs l) ((l.length : Nat) : Int) d t b out) pno := by
  refine Ev.step (f := fun k => hatchwayref08_parse.j4 k (bs l) ((l.length : Nat) : Int) d false t b out) (fun k => ?_) ?_
  · simp only [hatchwayref08_parse.l1]
    rw [if_neg (by rw [bs_size]; omega)]
  · refine Ev.step (f := fun _ => some pno) (fun k => ?_) (Ev.now _)
    simp only [hatchwayref08_parse.j4]
    rw [if_neg (by decide), if_pos (by rw [bs_size]; omega)]
    rfl
theorem q_close (l : List UInt8) (at_ : Nat) (hlt : at_ < l.length) (hl : l.length ≤ 4000) (hc : l[at_] = 41) (d : Int) (t : ByteArray) (b : Bool) (out : List S43) : Ev (fun k => hatchwayref08_parse.l1 k (bs l) (at_ : Int) d t b out) (t, b, out, ((at_ + 1 : Nat) : Int)) := by
  have h9 : at_ ≤ 1000000000 := by omega
  have c1 : (at_ : Int) < ((bs l).size : Int) := by rw [bs_size]; omega
  have c2 : ¬ (at_ : Int) ≥ ((bs l).size : Int) := by omega
  refine Ev.step (f := fun k => hatchwayref08_parse.j4 k (bs l) (at_ : Int) d false t b out) (fun k => ?_) ?_
  · simp only [hatchwayref08_parse.l1]
    rw [if_pos c1, if_pos (Int.natCast_nonneg at_), bt_bs hlt, hc]
    rfl
  · refine Ev.step (f := fun _ => some (t, b, out, ((at_ + 1 : Nat) : Int))) (fun k => ?_) (Ev.now _)
    simp only [hatchwayref08_parse.j4]
    rw [if_neg (by decide), if_neg c2, wid1 at_ h9]
theorem q_go (l : List UInt8) (at_ : Nat) (hlt : at_ < l.length) (hc : l[at_] ≠ 41) (d : Int) (t : ByteArray) (b : Bool) (out : List S43) (R : PR) (h : Ev (fun k => hatchwayref08_parse.j4 k (bs l) (at_ : Int) d true t b out) R) : Ev (fun k => hatchwayref08_parse.l1 k (bs l) (at_ : Int) d t b out) R := by
  have c1 : (at_ : Int) < ((bs l).size : Int) := by rw [bs_size]; omega
  have n1 : (((l[at_].toNat : Nat) : Int) != 41) = true := by
    rw [bne_iff_ne]
    exact fun e => hc (UInt8.toNat_inj.1 (by show l[at_].toNat = 41; omega))
  refine Ev.step (fun k => ?_) h
  simp only [hatchwayref08_parse.l1]
  rw [if_pos c1, if_pos (Int.natCast_nonneg at_), bt_bs hlt, n1]
/-- what follows an item that parse told -/
def pthen (l : List UInt8) (d : Nat) (out : List S43) (y : S43) (next : Int) (R : PR) : Prop :=
  if next < 0 then R = pno else Ev (fun k => hatchwayref08_parse.l1 k (bs l) next (d : Int) ⟨#[]⟩ true (out ++ [y])) R
theorem p_item (l : List UInt8) (at_ d : Nat) (out : List S43) (hout : out.length < 2932031007402) (y : S43) (next : Int) (hp : Ev (fun k => hatchwayref08_parse.f k (bs l) (at_ : Int) ((d + 1 : Nat) : Int)) (y.f0, y.f1, y.f2, next)) (R : PR) (hR : pthen l d out y next R) :
    Ev (fun k => (hatchwayref08_parse.f k (bs l) (at_ : Int) ((d + 1 : Nat) : Int)).bind fun q => if q.2.2.2 < 0 then some (⟨#[]⟩, false, [], -1) else if out.length < 2932031007402 then hatchwayref08_parse.l1 k (bs l) q.2.2.2 (d : Int) ⟨#[]⟩ true (out ++ [(⟨q.1, q.2.1, q.2.2.1⟩ : S43)]) else none) R := by
  refine Ev.bind hp ?_
  unfold pthen at hR
  by_cases h : next < 0
  · rw [if_pos h] at hR
    exact Ev.congr (f := fun _ => some pno) (fun k => if_pos h) (evq (Ev.now _) hR.symm)
  · rw [if_neg h] at hR
    refine Ev.congr (fun k => if_neg h) (Ev.congr (fun k => if_pos hout) ?_)
    show Ev (fun k => hatchwayref08_parse.l1 k (bs l) next (d : Int) ⟨#[]⟩ true (out ++ [(⟨y.f0, y.f1, y.f2⟩ : S43)])) R
    rw [t43]
    exact hR
theorem q_first (l : List UInt8) (at_ d : Nat) (hlt : at_ < l.length) (hc : l[at_] ≠ 41) (hd : d ≤ 16) (y : S43) (next : Int) (hp : Ev (fun k => hatchwayref08_parse.f k (bs l) (at_ : Int) ((d + 1 : Nat) : Int)) (y.f0, y.f1, y.f2, next)) (R : PR) (hR : pthen l d [] y next R) :
    Ev (fun k => hatchwayref08_parse.l1 k (bs l) (at_ : Int) (d : Int) ⟨#[]⟩ true []) R := by
  have h9 : d ≤ 1000000000 := by omega
  refine q_go l at_ hlt hc _ _ _ _ R (Ev.step (fun k => ?_) (p_item l at_ d [] (by simp) y next hp R hR))
  simp only [hatchwayref08_parse.j4]
  rw [if_pos trivial, if_neg (by decide), wid1 d h9]
theorem q_next (l : List UInt8) (at_ d : Nat) (hlt : at_ < l.length) (hl : l.length ≤ 4000) (hc : l[at_] = 32) (hd : d ≤ 16) (out : List S43) (ho : out ≠ []) (hout : out.length < 2932031007402) (y : S43) (next : Int) (hp : Ev (fun k => hatchwayref08_parse.f k (bs l) ((at_ + 1 : Nat) : Int) ((d + 1 : Nat) : Int)) (y.f0, y.f1, y.f2, next)) (R : PR) (hR : pthen l d out y next R) :
    Ev (fun k => hatchwayref08_parse.l1 k (bs l) (at_ : Int) (d : Int) ⟨#[]⟩ true out) R := by
  have h9 : d ≤ 1000000000 := by omega
  have h8 : at_ ≤ 1000000000 := by omega
  have c1 : (at_ : Int) < ((bs l).size : Int) := by rw [bs_size]; omega
  have c2 : (out.length : Int) > 0 := by
    cases out with
    | nil => exact absurd rfl ho
    | cons => simp only [List.length_cons]; omega
  refine q_go l at_ hlt (by rw [hc]; decide) _ _ _ _ R (Ev.step (fun k => ?_) (p_item l (at_ + 1) d out hout y next hp R hR))
  simp only [hatchwayref08_parse.j4]
  rw [if_pos trivial, if_pos c2, if_pos (Int.natCast_nonneg at_), if_pos c1, bt_bs hlt, hc, if_pos (by decide), wid1 at_ h8, wid1 d h9]
theorem q_fail (l : List UInt8) (at_ d : Nat) (hlt : at_ < l.length) (hc : l[at_] ≠ 41) (hc2 : l[at_] ≠ 32) (out : List S43) (ho : out ≠ []) : Ev (fun k => hatchwayref08_parse.l1 k (bs l) (at_ : Int) (d : Int) ⟨#[]⟩ true out) pno := by
  have c1 : (at_ : Int) < ((bs l).size : Int) := by rw [bs_size]; omega
  have c2 : (out.length : Int) > 0 := by
    cases out with
    | nil => exact absurd rfl ho
    | cons => simp only [List.length_cons]; omega
  have n1 : ¬ ((l[at_].toNat : Nat) : Int) = 32 := fun e => hc2 (UInt8.toNat_inj.1 (by show l[at_].toNat = 32; omega))
  refine q_go l at_ hlt hc _ _ _ _ pno (Ev.step (f := fun _ => some pno) (fun k => ?_) (Ev.now _))
  simp only [hatchwayref08_parse.j4]
  rw [if_pos trivial, if_pos c2, if_pos (Int.natCast_nonneg at_), if_pos c1, bt_bs hlt, if_neg n1]
  rfl

theorem drop_cons {l : List UInt8} {at_ : Nat} (h : at_ < l.length) : l.drop at_ = l[at_] :: l.drop (at_ + 1) := List.drop_eq_getElem_cons h
def PTells (l : List UInt8) (at_ d : Nat) : Prop :=
  ∃ (x : S43) (next : Int), Ev (fun k => hatchwayref08_parse.f k (bs l) (at_ : Int) (d : Int)) (x.f0, x.f1, x.f2, next) ∧
    (next = -1 ∨ ∃ n : Nat, next = (n : Int) ∧ at_ < n ∧ n ≤ l.length ∧ l.drop at_ = shw x ++ l.drop n ∧ right x = true ∧ d + dp x ≤ 17)
theorem ploop (l : List UInt8) (hl : l.length ≤ 4000) (N : Nat) (ih : ∀ at_ : Nat, l.length - at_ < N → at_ ≤ l.length → ∀ d : Nat, 1 ≤ d → d ≤ 17 → PTells l at_ d) (d : Nat) (hd1 : 1 ≤ d) (hd : d ≤ 16) (M : Nat) :
    ∀ at_ : Nat, l.length - at_ < M → l.length - at_ < N → at_ ≤ l.length → ∀ out : List S43, out.length + (l.length - at_) ≤ 10000 →
      ∃ R : PR, Ev (fun k => hatchwayref08_parse.l1 k (bs l) (at_ : Int) (d : Int) ⟨#[]⟩ true out) R ∧ (R = pno ∨ ∃ (ys : List S43) (n : Nat), R = (⟨#[]⟩, true, out ++ ys, (n : Int)) ∧ at_ < n ∧ n ≤ l.length ∧ l.drop at_ = shws (decide (out = [])) ys ++ 41 :: l.drop n ∧ rights ys = true ∧ (d + 1 + dps ys ≤ 17 ∨ ys = [])) := by
  induction M with
  | zero => intro at_ h; omega
  | succ M ihM =>
    intro at_ hM hN hat out hout
    rcases Nat.lt_or_ge at_ l.length with hlt | hge
    · have hdc := drop_cons hlt
      by_cases h41 : l[at_] = 41
      · exact ⟨_, q_close l at_ hlt hl h41 _ _ _ _, .inr ⟨[], at_ + 1, by simp, by omega, by omega, by rw [hdc, h41]; simp [shws], rfl, .inr rfl⟩⟩
      · have step : ∀ (at2 : Nat) (e : l.drop at_ = (if out = [] then [] else [32]) ++ l.drop at2) (h1 : at_ ≤ at2) (h2 : at2 ≤ l.length) (hrun : ∀ (y : S43) (next : Int) (R : PR), Ev (fun k => hatchwayref08_parse.f k (bs l) (at2 : Int) ((d + 1 : Nat) : Int)) (y.f0, y.f1, y.f2, next) → pthen l d out y next R → Ev (fun k => hatchwayref08_parse.l1 k (bs l) (at_ : Int) (d : Int) ⟨#[]⟩ true out) R),
            ∃ R : PR, Ev (fun k => hatchwayref08_parse.l1 k (bs l) (at_ : Int) (d : Int) ⟨#[]⟩ true out) R ∧ (R = pno ∨ ∃ (ys : List S43) (n : Nat), R = (⟨#[]⟩, true, out ++ ys, (n : Int)) ∧ at_ < n ∧ n ≤ l.length ∧ l.drop at_ = shws (decide (out = [])) ys ++ 41 :: l.drop n ∧ rights ys = true ∧ (d + 1 + dps ys ≤ 17 ∨ ys = [])) := by
          intro at2 e h1 h2 hrun
          obtain ⟨y, next, hp, hn⟩ := ih at2 (by omega) h2 (d + 1) (by omega) (by omega)
          rcases hn with rfl | ⟨n, rfl, k1, k2, k3, k4, k5⟩
          · exact ⟨pno, hrun y _ pno hp (by rw [pthen, if_pos (by decide)]), .inl rfl⟩
          · obtain ⟨R, hR, hc⟩ := ihM n (by omega) (by omega) k2 (out ++ [y]) (by simp only [List.length_append, List.length_cons, List.length_nil]; omega)
            refine ⟨R, hrun y _ R hp (by rw [pthen, if_neg (by omega)]; exact hR), ?_⟩
            rcases hc with hc | ⟨ys, n2, m1, m2, m3, m4, m5, m6⟩
            · exact .inl hc
            · refine .inr ⟨y :: ys, n2, by rw [m1]; simp, by omega, m3, ?_, by simp [rights, k4, m5], .inl ?_⟩
              · rw [e, k3, m4]
                have : decide (out ++ [y] = []) = false := by simp
                rw [this]
                by_cases ho : out = [] <;> simp [shws, ho]
              · simp only [dps]
                rcases m6 with m6 | m6
                · omega
                · rw [m6]; simp only [dps]; omega
        by_cases ho : out = []
        · subst ho
          exact step at_ (by simp) (Nat.le_refl _) hat fun y next R hp hR => q_first l at_ d hlt h41 hd y next hp R hR
        · by_cases h32 : l[at_] = 32
          · exact step (at_ + 1) (by rw [hdc, h32]; simp [ho]) (by omega) (by omega) fun y next R hp hR => q_next l at_ d hlt hl h32 hd out ho (by omega) y next hp R hR
          · exact ⟨pno, q_fail l at_ d hlt h41 h32 out ho, .inl rfl⟩
    · obtain rfl : at_ = l.length := by omega
      exact ⟨pno, q_end l _ _ _ _, .inl rfl⟩
theorem drop_hexs {l r ts : List UInt8} {at_ : Nat} (h : l.drop at_ = hexs ts ++ r) : l.drop (at_ + 2 * ts.length) = r := by
  rw [← List.drop_drop, h, List.drop_left' (by rw [hexs_len])]
theorem parse_total (l : List UInt8) (hl : l.length ≤ 4000) (N : Nat) : ∀ at_ : Nat, l.length - at_ < N → at_ ≤ l.length → ∀ d : Nat, 1 ≤ d → d ≤ 17 → PTells l at_ d := by
  induction N with
  | zero => intro at_ h; omega
  | succ N ih =>
    intro at_ hN hat d hd1 hd
    rcases Nat.lt_or_ge at_ l.length with hlt | hge
    · by_cases hd16 : 16 < d
      · exact ⟨⟨⟨#[]⟩, false, []⟩, -1, p_deep l at_ d hlt hd16, .inl rfl⟩
      · have hdc := drop_cons hlt
        by_cases h45 : l[at_] = 45
        · refine ⟨⟨⟨#[]⟩, false, []⟩, _, p_dash l at_ d hlt (by omega) hl h45, .inr ⟨at_ + 1, rfl, by omega, by omega, ?_, rfl, ?_⟩⟩
          · rw [hdc, h45]; rfl
          · simp only [dp, dps]; omega
        · by_cases h40 : l[at_] = 40
          · obtain ⟨R, hR, hc⟩ := ploop l hl N ih d hd1 (by omega) (l.length + 1) (at_ + 1) (by omega) (by omega) (by omega) [] (by simp only [List.length_nil]; omega)
            rcases hc with rfl | ⟨ys, n, rfl, m2, m3, m4, m5, m6⟩
            · exact ⟨⟨⟨#[]⟩, false, []⟩, -1, p_list l at_ d hlt (by omega) hl h40 _ hR, .inl rfl⟩
            · refine ⟨⟨⟨#[]⟩, true, ys⟩, _, p_list l at_ d hlt (by omega) hl h40 _ hR, .inr ⟨n, rfl, by omega, m3, ?_, by rw [right, m5]; rfl, ?_⟩⟩
              · rw [hdc, h40, m4, shw, if_pos rfl]; simp
              · simp only [dp]
                rcases m6 with m6 | m6
                · omega
                · rw [m6]; simp only [dps]; omega
          · obtain ⟨ts, r, e, hs⟩ := decomp (l.length + 1) (l.drop at_) (by rw [List.length_drop]; omega)
            have hE := p_text l at_ d hlt (by omega) h45 h40 _ (ptext l hl r hs ts at_ [] hat e (by simp))
            rw [List.nil_append] at hE
            by_cases ht : ts = []
            · rw [if_pos ht] at hE
              exact ⟨⟨⟨#[]⟩, false, []⟩, -1, hE, .inl rfl⟩
            · rw [if_neg ht] at hE
              have hle := drop_len e hat
              rw [List.length_append, hexs_len] at hle
              have h1 : 1 ≤ ts.length := by cases ts with | nil => exact absurd rfl ht | cons => simp
              refine ⟨⟨bs ts, false, []⟩, _, hE, .inr ⟨at_ + 2 * ts.length, rfl, by omega, by omega, ?_, rfl, ?_⟩⟩
              · rw [drop_hexs e, e, shw_text ht]
              · simp only [dp, dps]; omega
    · obtain rfl : at_ = l.length := by omega
      exact ⟨⟨⟨#[]⟩, false, []⟩, -1, p_end l d, .inl rfl⟩

theorem shw_first (x : S43) (r : List UInt8) : ∃ c m, shw x ++ r = c :: m ∧ c ≠ 41 ∧ c ≠ 32 ∧ (x.f1 = false → c ≠ 40) := by
  obtain ⟨h1, h2, h3⟩ := shw_head x r
  cases e : shw x ++ r with
  | nil =>
    have := shws_long true [x]
    have h4 := congrArg List.length e
    simp only [shws, List.length_append, List.length_cons, List.length_nil] at this h4
    simp at this
    omega
  | cons c m =>
    rw [e] at h1 h2 h3
    simp only [List.head?_cons] at h1 h2 h3
    exact ⟨c, m, rfl, fun h => h1 (by rw [h]), fun h => h2 (by rw [h]), fun hf h => h3 hf (by rw [h])⟩
theorem pread_loop (l : List UInt8) (hl : l.length ≤ 4000) (n : Nat) (ih : ∀ (x : S43), cnt x < n → right x = true → ∀ (at_ d : Nat) (r : List UInt8), sep r → 1 ≤ d → d + dp x ≤ 17 → at_ ≤ l.length → l.drop at_ = shw x ++ r → Ev (fun k => hatchwayref08_parse.f k (bs l) (at_ : Int) (d : Int)) (x.f0, x.f1, x.f2, ((at_ + (shw x).length : Nat) : Int))) (s : List S43) (hs : rights s = true) (hc : cnts s < n) (d : Nat) (hd1 : 1 ≤ d) (hd16 : d ≤ 16) (hd : d + 1 + dps s ≤ 17 ∨ s = []) (r : List UInt8) (hsl : s.length ≤ 10000) :
    ∀ (m i at_ : Nat), m + i = s.length → at_ ≤ l.length → l.drop at_ = shws (decide (i = 0)) (s.drop i) ++ 41 :: r → Ev (fun k => hatchwayref08_parse.l1 k (bs l) (at_ : Int) (d : Int) ⟨#[]⟩ true (s.take i)) (⟨#[]⟩, true, s, ((at_ + (shws (decide (i = 0)) (s.drop i)).length + 1 : Nat) : Int)) := by
  intro m
  induction m with
  | zero =>
    intro i at_ hm hat hdr
    rw [List.drop_eq_nil_of_le (show s.length ≤ i by omega)] at hdr ⊢
    rw [List.take_of_length_le (by omega)]
    simp only [shws, List.nil_append] at hdr
    obtain ⟨hlt, e1, _⟩ := drop_get hdr
    exact evq (q_close l at_ hlt hl e1 _ _ _ _) (by simp [shws])
  | succ m ihm =>
    intro i at_ hm hat hdr
    have hlt : i < s.length := by omega
    have hry : right s[i] = true ∧ dp s[i] ≤ dps s := by
      have hz : ∀ (q : List S43), rights q = true → ∀ y ∈ q, right y = true ∧ dp y ≤ dps q := by
        intro q
        induction q with
        | nil => intro _ y hy; cases hy
        | cons x xs ihl =>
          intro hq y hy
          simp only [rights, Bool.and_eq_true] at hq
          simp only [dps]
          rcases List.mem_cons.1 hy with rfl | hy
          · exact ⟨hq.1, by omega⟩
          · have := ihl hq.2 y hy; exact ⟨this.1, by omega⟩
      exact hz s hs _ (List.getElem_mem hlt)
    have hd2 : d + 1 + dps s ≤ 17 := by
      rcases hd with h | h
      · exact h
      · rw [h] at hlt; simp at hlt
    have hcg := cnt_get hlt
    have hlen2 : (s.take i).length < 2932031007402 := by rw [List.length_take]; omega
    rw [List.drop_eq_getElem_cons hlt] at hdr ⊢
    obtain ⟨Z, hZ⟩ : ∃ Z, shws false (s.drop (i + 1)) ++ 41 :: r = Z := ⟨_, rfl⟩
    have hsep : sep Z := by
      rw [← hZ]
      cases s.drop (i + 1) with
      | nil => exact .inr (.inr (by simp [shws]))
      | cons x xs => exact .inr (.inl (by simp [shws]))
    have after : ∀ at2 : Nat, at2 ≤ l.length → l.drop at2 = shw s[i] ++ Z → ∃ R : PR, Ev (fun k => hatchwayref08_parse.f k (bs l) (at2 : Int) ((d + 1 : Nat) : Int)) (s[i].f0, s[i].f1, s[i].f2, ((at2 + (shw s[i]).length : Nat) : Int)) ∧ pthen l d (s.take i) s[i] ((at2 + (shw s[i]).length : Nat) : Int) R ∧ R = (⟨#[]⟩, true, s, ((at2 + (shw s[i]).length + (shws false (s.drop (i + 1))).length + 1 : Nat) : Int)) := by
      intro at2 h2 e2
      have hp := ih s[i] (by omega) hry.1 at2 (d + 1) Z hsep (by omega) (by omega) h2 e2
      have hle := drop_len e2 h2
      rw [List.length_append] at hle
      have e3 : l.drop (at2 + (shw s[i]).length) = Z := by rw [← List.drop_drop, e2, List.drop_left]
      have := ihm (i + 1) (at2 + (shw s[i]).length) (by omega) (by omega) (by rw [e3, ← hZ]; rfl)
      rw [List.take_succ_eq_append_getElem hlt] at this
      exact ⟨_, hp, by rw [pthen, if_neg (by omega)]; exact this, rfl⟩
    by_cases h0 : i = 0
    · have e : l.drop at_ = shw s[i] ++ Z := by rw [hdr, ← hZ]; simp [shws, h0]
      obtain ⟨c, mm, ec, n1, _, _⟩ := shw_first s[i] Z
      obtain ⟨g, e1, _⟩ := drop_get (e.trans ec)
      obtain ⟨R, hp, hR, rfl⟩ := after at_ hat e
      have ht : s.take i = [] := by rw [h0]; rfl
      rw [ht] at hR ⊢
      refine evq (q_first l at_ d g (by rw [e1]; exact n1) hd16 s[i] _ hp _ hR) ?_
      simp only [shws, h0, decide_true, if_true, List.nil_append, List.length_append]
      rw [show at_ + (shw s[0]).length + (shws false (s.drop (0 + 1))).length + 1 = at_ + ((shw s[0]).length + (shws false (s.drop (0 + 1))).length) + 1 by omega]
    · have e : l.drop at_ = 32 :: (shw s[i] ++ Z) := by rw [hdr, ← hZ]; simp [shws, h0]
      obtain ⟨g, e1, e2⟩ := drop_get e
      obtain ⟨R, hp, hR, rfl⟩ := after (at_ + 1) (by omega) e2
      have hne : s.take i ≠ [] := by
        intro h
        have := congrArg List.length h
        rw [List.length_take] at this
        simp only [List.length_nil] at this
        omega
      refine evq (q_next l at_ d g hl e1 hd16 (s.take i) hne hlen2 s[i] _ hp _ hR) ?_
      simp only [shws, h0, decide_false, Bool.false_eq_true, if_false, List.length_append, List.length_cons, List.length_nil]
      rw [show at_ + 1 + (shw s[i]).length + (shws false (s.drop (i + 1))).length + 1 = at_ + (0 + 1 + ((shw s[i]).length + (shws false (s.drop (i + 1))).length)) + 1 by omega]
theorem parse_read (l : List UInt8) (hl : l.length ≤ 4000) (n : Nat) : ∀ (x : S43), cnt x < n → right x = true → ∀ (at_ d : Nat) (r : List UInt8), sep r → 1 ≤ d → d + dp x ≤ 17 → at_ ≤ l.length → l.drop at_ = shw x ++ r → Ev (fun k => hatchwayref08_parse.f k (bs l) (at_ : Int) (d : Int)) (x.f0, x.f1, x.f2, ((at_ + (shw x).length : Nat) : Int)) := by
  induction n with
  | zero => intro x h; omega
  | succ n ih =>
    rintro ⟨t, b, s⟩ hx hri at_ d r hr hd1 hd hat hdr
    have hdp := dp_pos ⟨t, b, s⟩
    simp only [right, Bool.and_eq_true] at hri
    have hle := drop_len hdr hat
    rw [List.length_append] at hle
    cases b
    · have hs0 : s = [] := by
        have := hri.1
        simp [flat] at this
        exact this
      subst hs0
      by_cases h : t.size = 0
      · have hs : shw ⟨t, false, []⟩ = [45] := by rw [shw, if_neg (by simp), if_pos h]
        have ht0 : t = ⟨#[]⟩ := by
          cases t with
          | mk q => simp only [ByteArray.size] at h; rw [Array.eq_empty_of_size_eq_zero h]
        rw [hs] at hdr ⊢
        obtain ⟨g, e1, _⟩ := drop_get (show l.drop at_ = 45 :: r from hdr)
        exact evq (p_dash l at_ d g (by omega) hl e1) (by rw [ht0]; rfl)
      · have hq : t.data.toList.length = t.size := by rw [Array.length_toList]; rfl
        have hne : t.data.toList ≠ [] := fun e => by rw [e] at hq; simp at hq; omega
        have hs : shw ⟨t, false, []⟩ = hexs t.data.toList := by rw [shw, if_neg (by simp), if_neg h]
        have hh : ∃ c m, hexs t.data.toList ++ r = c :: m ∧ c ≠ 45 ∧ c ≠ 40 := by
          cases e : t.data.toList with
          | nil => exact absurd e hne
          | cons c ts =>
            obtain ⟨d1, d2, d3, d4⟩ := dig_ne (c.toNat / 16) (by have := c.toNat_lt; omega)
            exact ⟨_, _, rfl, d3, d1⟩
        obtain ⟨c, mm, ec, n1, n2⟩ := hh
        rw [hs] at hdr
        obtain ⟨g, e1, _⟩ := drop_get (hdr.trans ec)
        have hE := p_text l at_ d g (by omega) (by rw [e1]; exact n1) (by rw [e1]; exact n2) _ (ptext l hl r (stop_sep hr) t.data.toList at_ [] hat hdr (by simp))
        rw [List.nil_append, if_neg hne, ← bs_data] at hE
        rw [hs, hexs_len]
        exact hE
    · have ht0 : t = ⟨#[]⟩ := by
        have := hri.1
        simp only [flat, if_true, decide_eq_true_eq] at this
        cases t with
        | mk q => simp only [ByteArray.size] at this; rw [Array.eq_empty_of_size_eq_zero this]
      subst ht0
      have hs : shw ⟨⟨#[]⟩, true, s⟩ = 40 :: (shws true s ++ [41]) := by rw [shw, if_pos rfl]
      rw [hs] at hdr hle ⊢
      simp only [List.length_cons, List.length_append, List.length_nil] at hle
      simp only [cnt, dp] at hx hd
      obtain ⟨g, e1, e2⟩ := drop_get (show l.drop at_ = 40 :: (shws true s ++ [41] ++ r) from hdr)
      have hsl := shws_long true s
      have hE := pread_loop l hl n ih s hri.2 (by omega) d hd1 (by omega) (.inl (by omega)) r (by omega) s.length 0 (at_ + 1) (by omega) (by omega) (by rw [e2]; simp)
      refine evq (p_list l at_ d g (by omega) hl e1 _ hE) ?_
      simp only [decide_true, List.drop_zero, List.length_cons, List.length_append, List.length_nil]
      rw [show at_ + 1 + (shws true s).length + 1 = at_ + ((shws true s).length + (0 + 1) + 1) by omega]
end Go.Proofs.Ytkdkdjhdoplicaa.It
