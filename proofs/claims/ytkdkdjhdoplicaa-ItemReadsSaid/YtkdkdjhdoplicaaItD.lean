/- Plain: whatever the bytes, the reader ends; and what it reads without a fault is an item's line. -/
import Derived.Test.YtkdkdjhdoplicaaItZ
namespace Go.Proofs.Ytkdkdjhdoplicaa.It
open Go.RowKit Go.Proofs.YtkdkdjhdoplicaaW.PrintWords Go.Proofs.YtkdkdjhdoplicaaW.PrintLast Go.Proofs.YtkdkdjhdoplicaaW.PrintMore

theorem byte_dig {h l : UInt8} {q r : Nat} (hq : q < 16) (hr : r < 16) (e1 : h = dig q) (e2 : l = dig r) : ∃ c : UInt8, hexs [c] = [h, l] ∧ Aside0 (wrap64 (wrap64 (16 * (q : Int)) + (r : Int)) % 256 = (c.toNat : Int)) := by
  have hc : (UInt8.ofNat (16 * q + r)).toNat = 16 * q + r := by
    rw [UInt8.toNat_ofNat']
    omega
  have h1 : (UInt8.ofNat (16 * q + r)).toNat / 16 = q := by omega
  have h2 : (UInt8.ofNat (16 * q + r)).toNat % 16 = r := by omega
  refine ⟨UInt8.ofNat (16 * q + r), ?_, ⟨?_⟩⟩
  · simp only [hexs]; rw [h1, h2, e1, e2]
  · have := pair_val (UInt8.ofNat (16 * q + r))
    rw [h1, h2] at this
    exact this
/-- the digits that the bytes begin with -/
theorem text_any (it : Int) (N : Nat) : ∀ (l a : List UInt8), l.length < N → a.length + l.length ≤ 100000 → ∃ ts r, l = hexs ts ++ r ∧ Ev (fun k => item_reader_text.l0 k (a.map fun c => (c.toNat : Int)) (bs l) it false) (bs (a ++ ts), bs r, it, decide (a ++ ts = [])) := by
  induction N with
  | zero => intro l a h; omega
  | succ N ih =>
    intro l a hN hla
    have hstop : ∀ (k : Nat), (((a.map fun c => (c.toNat : Int)).length : Int) == 0) = decide (a ++ [] = []) := fun _ => by
      cases a with
      | nil => rfl
      | cons x xs => simp; omega
    by_cases h2 : 2 ≤ l.length
    · match l, h2, hN, hla with
      | x :: y :: l', _, hN, hla =>
        simp only [List.length_cons] at hN hla
        have f0 : bt (bs (x :: y :: l')) 0 = (x.toNat : Int) := bt_bs (i := 0) (by simp)
        have f1 : bt (bs (x :: y :: l')) 1 = (y.toNat : Int) := bt_bs (i := 1) (by simp)
        have hz : (bs (x :: y :: l')).size = l'.length + 2 := by rw [bs_size]; rfl
        have fe : (bs (x :: y :: l')).extract 2 (bs (x :: y :: l')).size = bs l' := by
          rw [hz, bs_extract]
          show bs (List.take (l'.length + 2 - 2) l') = _
          rw [Nat.add_sub_cancel, List.take_length]
        have g1 : ((bs (x :: y :: l')).size : Int) ≥ 2 := by omega
        have g2 : (0 : Int) < ((bs (x :: y :: l')).size : Int) := by omega
        have g3 : (1 : Int) < ((bs (x :: y :: l')).size : Int) := by omega
        rcases hx_all x with hxn | ⟨q, hq, hxq, hxd⟩
        · refine ⟨[], x :: y :: l', rfl, ?_⟩
          refine Ev.step (f := fun _ => some (bs a, bs (x :: y :: l'), it, decide (a ++ [] = []))) (fun k => ?_) (evq (Ev.now _) (by rw [List.append_nil]))
          simp only [item_reader_text.l0]
          rw [f0, f1, index_f, index_f, nums_bs]
          simp only [Option.bind_some]
          rw [if_pos g1, if_pos g2, if_pos g3, hxn, if_pos (by decide), if_neg (by decide), hstop k]
        · rcases hx_all y with hyn | ⟨r, hr, hyr, hyd⟩
          · refine ⟨[], x :: y :: l', rfl, ?_⟩
            have n1 : ¬ (q : Int) < 0 := by omega
            refine Ev.step (f := fun _ => some (bs a, bs (x :: y :: l'), it, decide (a ++ [] = []))) (fun k => ?_) (evq (Ev.now _) (by rw [List.append_nil]))
            simp only [item_reader_text.l0]
            rw [f0, f1, index_f, index_f, nums_bs]
            simp only [Option.bind_some]
            rw [if_pos g1, if_pos g2, if_pos g3, hxq, hyn, if_neg n1, if_pos (by decide), if_neg (by decide), hstop k]
          · obtain ⟨c, c3, c4⟩ := byte_dig hq hr hxd hyd
            obtain ⟨ts, r', e, hE⟩ := ih l' (a ++ [c]) (by omega) (by simp only [List.length_append, List.length_cons, List.length_nil]; omega)
            have n1 : ¬ (q : Int) < 0 := by omega
            have n2 : ¬ (r : Int) < 0 := by omega
            have hlen : (a.map fun c => (c.toNat : Int)).length < 140737488355328 := by rw [List.length_map]; omega
            refine ⟨c :: ts, r', ?_, ?_⟩
            · have : hexs (c :: ts) = hexs [c] ++ hexs ts := by rw [← hexs_append]; rfl
              rw [this, c3, e]
              simp
            · rw [List.append_assoc] at hE
              refine Ev.step (f := fun k => item_reader_text.l0 k ((a ++ [c]).map fun c => (c.toNat : Int)) (bs l') it false) (fun k => ?_) hE
              simp only [item_reader_text.l0]
              rw [f0, f1, index_f, index_f]
              simp only [Option.bind_some]
              rw [if_pos g1, if_pos g2, if_pos g3, hxq, hyr, if_neg n1, if_neg n2, if_pos hlen, if_pos g1, c4.out, fe]
              simp
    · refine ⟨[], l, rfl, ?_⟩
      have g1 : ¬ ((bs l).size : Int) ≥ 2 := by rw [bs_size]; omega
      refine Ev.step (f := fun _ => some (bs a, bs l, it, decide (a ++ [] = []))) (fun k => ?_) (evq (Ev.now _) (by rw [List.append_nil]))
      simp only [item_reader_text.l0]
      rw [if_neg g1, nums_bs, if_neg (by decide), hstop k]
theorem bs_ne {ts : List UInt8} (h : ts ≠ []) : (bs ts).size ≠ 0 := by
  rw [bs_size]
  intro e
  exact h (List.eq_nil_of_length_eq_zero e)
theorem shw_text {ts : List UInt8} (h : ts ≠ []) (s : List S43) : shw ⟨bs ts, false, s⟩ = hexs ts := by
  rw [shw, if_neg (by simp), if_neg (bs_ne h)]
  simp [bs]
theorem text_total (it : Int) (l : List UInt8) (hl : l.length ≤ 100000) : ∃ (t : ByteArray) (r : List UInt8) (bad : Bool), Ev (fun k => item_reader_text.f k (bs l) it false) (t, bs r, it, bad) ∧ r.length ≤ l.length ∧ (bad = false → l = shw ⟨t, false, []⟩ ++ r ∧ r.length < l.length) := by
  by_cases h45 : l.head? = some 45
  · cases l with
    | nil => simp at h45
    | cons c l =>
      have hc : c = 45 := by simpa using h45
      subst hc
      have hs : shw ⟨⟨#[]⟩, false, []⟩ = [45] := rfl
      refine ⟨⟨#[]⟩, l, false, ?_, by simp, fun _ => ⟨by rw [hs]; rfl, by simp⟩⟩
      refine Ev.congr (f := fun _ => some (⟨#[]⟩, bs l, it, false)) (fun k => ?_) (Ev.now _)
      simp only [item_reader_text.f]
      rw [show (⟨#[45]⟩ : ByteArray) = bs [45] from rfl, sign_f]
      simp
  · obtain ⟨ts, r, e, hE⟩ := text_any it (l.length + 1) l [] (by omega) (by simp; omega)
    rw [List.nil_append] at hE
    have hlr : r.length + 2 * ts.length = l.length := by rw [e, List.length_append, hexs_len]; omega
    refine ⟨bs ts, r, decide (ts = []), ?_, by omega, fun hb => ?_⟩
    · refine Ev.congr (fun k => ?_) hE
      simp only [item_reader_text.f]
      rw [show (⟨#[45]⟩ : ByteArray) = bs [45] from rfl, sign_f, if_neg h45]
      simp
    · have hne : ts ≠ [] := by simpa using hb
      have : 1 ≤ ts.length := by cases ts with | nil => exact absurd rfl hne | cons => simp
      exact ⟨by rw [shw_text hne]; exact e, by omega⟩
theorem loop_bad (d it : Int) (l : List UInt8) (out : List S43) (ho : out ≠ []) : ∃ r : List UInt8, r.length ≤ l.length ∧ Ev (fun k => item_reader_item.l0 k d (bs l) it true ⟨#[]⟩ true out) (⟨#[]⟩, true, out, bs r, it, true) := by
  have hpos : (out.length : Int) > 0 := by
    cases out with
    | nil => exact absurd rfl ho
    | cons => simp only [List.length_cons]; omega
  by_cases h41 : l.head? = some 41
  · refine ⟨l.tail, by simp, ?_⟩
    refine Ev.step (f := fun _ => some (⟨#[]⟩, true, out, bs l.tail, it, true)) (fun k => ?_) (Ev.now _)
    simp only [item_reader_item.l0]
    rw [show (⟨#[41]⟩ : ByteArray) = bs [41] from rfl, sign_f, if_pos h41]
    simp
  · by_cases h32 : l.head? = some 32
    · refine ⟨l.tail, by simp, ?_⟩
      refine Ev.step (f := fun k => item_reader_item.j2 k d false (bs l.tail) it true ⟨#[]⟩ true out) (fun k => ?_) ?_
      · simp only [item_reader_item.l0]
        rw [show (⟨#[41]⟩ : ByteArray) = bs [41] from rfl, sign_f, if_neg h41]
        simp only [Option.bind_some]
        rw [if_neg (by decide), if_pos hpos, show (⟨#[32]⟩ : ByteArray) = bs [32] from rfl, sign_f, if_pos h32]
        simp
      · refine Ev.step (f := fun _ => some (⟨#[]⟩, true, out, bs l.tail, it, true)) (fun k => ?_) (Ev.now _)
        simp [item_reader_item.j2]
    · refine ⟨l, by simp, ?_⟩
      refine Ev.step (f := fun k => item_reader_item.j2 k d true (bs l) it true ⟨#[]⟩ true out) (fun k => ?_) ?_
      · simp only [item_reader_item.l0]
        rw [show (⟨#[41]⟩ : ByteArray) = bs [41] from rfl, sign_f, if_neg h41]
        simp only [Option.bind_some]
        rw [if_neg (by decide), if_pos hpos, show (⟨#[32]⟩ : ByteArray) = bs [32] from rfl, sign_f, if_neg h32]
        simp
      · refine Ev.step (f := fun _ => some (⟨#[]⟩, true, out, bs l, it, true)) (fun k => ?_) (Ev.now _)
        simp [item_reader_item.j2]

/-- what the reader tells of the bytes l, at depth d, with so many items behind it -/
def Tells (l : List UInt8) (d it : Nat) : Prop :=
  ∃ (x : S43) (r : List UInt8) (it' : Nat) (bad : Bool), r.length ≤ l.length ∧ it' ≤ 1025 ∧ (bad = false → l = shw x ++ r ∧ right x = true ∧ d + dp x ≤ 17 ∧ it' = it + cnt x ∧ it' ≤ 1024 ∧ r.length < l.length) ∧
    Ev (fun k => item_reader_item.f k (bs l) (it : Int) false (d : Int)) (x.f0, x.f1, x.f2, bs r, (it' : Int), bad)
theorem loop_total (N : Nat) (ih : ∀ l : List UInt8, l.length < N → ∀ d it : Nat, 1 ≤ d → d ≤ 17 → it ≤ 1024 → l.length ≤ 4000 → Tells l d it) (d : Nat) (hd1 : 1 ≤ d) (hd : d ≤ 16) (M : Nat) :
    ∀ l : List UInt8, l.length < M → l.length < N → ∀ (out : List S43) (it : Nat), out.length + l.length ≤ 10000 → it ≤ 1024 → l.length ≤ 4000 →
      ∃ (ys : List S43) (r : List UInt8) (it' : Nat) (bad : Bool), r.length ≤ l.length ∧ it' ≤ 1025 ∧ (bad = false → l = shws (decide (out = [])) ys ++ 41 :: r ∧ rights ys = true ∧ (d + 1 + dps ys ≤ 17 ∨ ys = []) ∧ it' = it + cnts ys ∧ it' ≤ 1024) ∧
        Ev (fun k => item_reader_item.l0 k (d : Int) (bs l) (it : Int) false ⟨#[]⟩ true out) (⟨#[]⟩, true, out ++ ys, bs r, (it' : Int), bad) := by
  induction M with
  | zero => intro l h; omega
  | succ M ihM =>
    intro l hM hN out it hol hit hl4
    by_cases h41 : l.head? = some 41
    · cases l with
      | nil => simp at h41
      | cons c l =>
        have hc : c = 41 := by simpa using h41
        subst hc
        refine ⟨[], l, it, false, by simp, by omega, fun _ => ⟨by simp [shws], rfl, .inr rfl, by simp [cnts], hit⟩, ?_⟩
        refine Ev.step (f := fun _ => some (⟨#[]⟩, true, out ++ [], bs l, (it : Int), false)) (fun k => ?_) (Ev.now _)
        simp only [item_reader_item.l0]
        rw [show (⟨#[41]⟩ : ByteArray) = bs [41] from rfl, sign_f]
        simp
    · have key : ∀ l3 : List UInt8, l = (if out = [] then [] else [32]) ++ l3 → (∀ R, Ev (fun k => item_reader_item.j2 k (d : Int) false (bs l3) (it : Int) false ⟨#[]⟩ true out) R → Ev (fun k => item_reader_item.l0 k (d : Int) (bs l) (it : Int) false ⟨#[]⟩ true out) R) →
          ∃ (ys : List S43) (r : List UInt8) (it' : Nat) (bad : Bool), r.length ≤ l.length ∧ it' ≤ 1025 ∧ (bad = false → l = shws (decide (out = [])) ys ++ 41 :: r ∧ rights ys = true ∧ (d + 1 + dps ys ≤ 17 ∨ ys = []) ∧ it' = it + cnts ys ∧ it' ≤ 1024) ∧
            Ev (fun k => item_reader_item.l0 k (d : Int) (bs l) (it : Int) false ⟨#[]⟩ true out) (⟨#[]⟩, true, out ++ ys, bs r, (it' : Int), bad) := by
        intro l3 hl3 hstep
        have hlen3 : l3.length ≤ l.length := by rw [hl3, List.length_append]; omega
        obtain ⟨x, r3, it3, bad3, k1, k2, k3, k4⟩ := ih l3 (by omega) (d + 1) it (by omega) (by omega) hit (by omega)
        have hd9 : d ≤ 1000000000 := by omega
        have hlen2 : out.length < 2932031007402 := by omega
        have hj : ∀ R, Ev (fun k => item_reader_item.l0 k (d : Int) (bs r3) (it3 : Int) bad3 ⟨#[]⟩ true (out ++ [x])) R → Ev (fun k => item_reader_item.l0 k (d : Int) (bs l) (it : Int) false ⟨#[]⟩ true out) R := by
          intro R hR
          refine hstep R ?_
          refine Ev.step (f := fun k => (item_reader_item.f k (bs l3) (it : Int) false ((d + 1 : Nat) : Int)).bind fun q => item_reader_item.l0 k (d : Int) q.2.2.2.1 q.2.2.2.2.1 q.2.2.2.2.2 ⟨#[]⟩ true (out ++ [(⟨q.1, q.2.1, q.2.2.1⟩ : S43)])) (fun k => ?_) ?_
          · simp only [item_reader_item.j2]
            rw [wid1 d hd9]
            simp only [if_pos hlen2]
            simp
          · refine Ev.bind k4 ?_
            show Ev (fun k => item_reader_item.l0 k (d : Int) (bs r3) (it3 : Int) bad3 ⟨#[]⟩ true (out ++ [(⟨x.f0, x.f1, x.f2⟩ : S43)])) _
            rw [t43]
            exact hR
        cases bad3
        · obtain ⟨e1, e2, e3, e4, e5, e6⟩ := k3 rfl
          obtain ⟨ys, r, it', bad, m1, m2, m3, m4⟩ := ihM r3 (by omega) (by omega) (out ++ [x]) it3 (by simp only [List.length_append, List.length_cons, List.length_nil]; omega) e5 (by omega)
          refine ⟨x :: ys, r, it', bad, by omega, m2, fun hb => ?_, ?_⟩
          · obtain ⟨n1, n2, n3, n4, n5⟩ := m3 hb
            refine ⟨?_, by simp [rights, e2, n2], .inl ?_, by simp only [cnts]; omega, n5⟩
            · rw [hl3, e1, n1]
              have : decide (out ++ [x] = []) = false := by simp
              rw [this]
              by_cases ho : out = [] <;> simp [shws, ho]
            · simp only [dps]
              rcases n3 with n3 | n3
              · omega
              · rw [n3]; simp only [dps]; omega
          · have := hj _ m4
            rwa [List.append_assoc] at this
        · obtain ⟨r4, q1, q2⟩ := loop_bad (d : Int) (it3 : Int) r3 (out ++ [x]) (by simp)
          exact ⟨[x], r4, it3, true, by omega, k2, (fun h => by cases h), hj _ q2⟩
      by_cases ho : out = []
      · refine key l (by simp [ho]) fun R hR => ?_
        refine Ev.step (fun k => ?_) hR
        simp only [item_reader_item.l0]
        rw [show (⟨#[41]⟩ : ByteArray) = bs [41] from rfl, sign_f, if_neg h41]
        simp [ho]
      · have hpos : (out.length : Int) > 0 := by
          cases out with
          | nil => exact absurd rfl ho
          | cons => simp only [List.length_cons]; omega
        by_cases h32 : l.head? = some 32
        · refine key l.tail ?_ fun R hR => ?_
          · cases l with
            | nil => simp at h32
            | cons c l =>
              have hc : c = 32 := by simpa using h32
              simp [ho, hc]
          · refine Ev.step (fun k => ?_) hR
            simp only [item_reader_item.l0]
            rw [show (⟨#[41]⟩ : ByteArray) = bs [41] from rfl, sign_f, if_neg h41]
            simp only [Option.bind_some]
            rw [if_neg (by decide), if_pos hpos, show (⟨#[32]⟩ : ByteArray) = bs [32] from rfl, sign_f, if_pos h32]
            simp
        · refine ⟨[], l, it, true, by omega, by omega, fun h => (by cases h), ?_⟩
          refine Ev.step (f := fun k => item_reader_item.j2 k (d : Int) true (bs l) (it : Int) false ⟨#[]⟩ true out) (fun k => ?_) ?_
          · simp only [item_reader_item.l0]
            rw [show (⟨#[41]⟩ : ByteArray) = bs [41] from rfl, sign_f, if_neg h41]
            simp only [Option.bind_some]
            rw [if_neg (by decide), if_pos hpos, show (⟨#[32]⟩ : ByteArray) = bs [32] from rfl, sign_f, if_neg h32]
            simp
          · refine Ev.step (f := fun _ => some (⟨#[]⟩, true, out, bs l, (it : Int), true)) (fun k => ?_) (evq (Ev.now _) (by simp))
            simp [item_reader_item.j2]
theorem item_total (N : Nat) : ∀ l : List UInt8, l.length < N → ∀ d it : Nat, 1 ≤ d → d ≤ 17 → it ≤ 1024 → l.length ≤ 4000 → Tells l d it := by
  induction N with
  | zero => intro l h; omega
  | succ N ih =>
    intro l hN d it hd1 hd hit hl4
    have hi9 : it ≤ 1000000000 := by omega
    by_cases hbad : 16 < d ∨ 1024 < it + 1
    · refine ⟨⟨⟨#[]⟩, false, []⟩, l, it + 1, true, by omega, by omega, fun h => (by cases h), ?_⟩
      refine Ev.step (f := fun k => item_reader_item.j0 k (d : Int) (bs l) ((it + 1 : Nat) : Int) true) (fun k => ?_) ?_
      · have c1 : (d : Int) > 16 ∨ ¬ (d : Int) > 16 ∧ ((it + 1 : Nat) : Int) > 1024 := by omega
        simp only [item_reader_item.f]
        rw [if_neg (by decide), wid1 it hi9]
        rcases c1 with c1 | ⟨c1, c2⟩
        · rw [if_pos c1]
        · rw [if_neg c1, decide_eq_true c2]
      · refine Ev.step (f := fun _ => some (⟨#[]⟩, false, [], bs l, ((it + 1 : Nat) : Int), true)) (fun k => ?_) (Ev.now _)
        simp [item_reader_item.j0]
    · have c1 : ¬ (d : Int) > 16 := by omega
      have c2 : ¬ ((it + 1 : Nat) : Int) > 1024 := by omega
      have hf : ∀ R, Ev (fun k => item_reader_item.j0 k (d : Int) (bs l) ((it + 1 : Nat) : Int) false) R → Ev (fun k => item_reader_item.f k (bs l) (it : Int) false (d : Int)) R := fun R hR => by
        refine Ev.step (fun k => ?_) hR
        simp only [item_reader_item.f]
        rw [if_neg (by decide), wid1 it hi9, if_neg c1, decide_eq_false c2]
      by_cases h40 : l.head? = some 40
      · cases l with
        | nil => simp at h40
        | cons c l =>
          have hc : c = 40 := by simpa using h40
          subst hc
          simp only [List.length_cons] at hN hl4
          obtain ⟨ys, r, it', bad, m1, m2, m3, m4⟩ := loop_total N ih d hd1 (by omega) (l.length + 1) l (by omega) (by omega) [] (it + 1) (by simp only [List.length_nil]; omega) (by omega) (by omega)
          refine ⟨⟨⟨#[]⟩, true, ys⟩, r, it', bad, by simp only [List.length_cons]; omega, m2, fun hb => ?_, ?_⟩
          · obtain ⟨n1, n2, n3, n4, n5⟩ := m3 hb
            refine ⟨?_, by rw [right, n2]; rfl, ?_, by simp only [cnt]; omega, n5, by simp only [List.length_cons]; omega⟩
            · rw [shw, if_pos rfl, n1]
              simp
            · simp only [dp]
              rcases n3 with n3 | n3
              · omega
              · rw [n3]; simp only [dps]; omega
          · refine hf _ ?_
            refine Ev.step (f := fun k => item_reader_item.l0 k (d : Int) (bs l) ((it + 1 : Nat) : Int) false ⟨#[]⟩ true []) (fun k => ?_) m4
            simp only [item_reader_item.j0]
            rw [if_neg (by decide), show (⟨#[40]⟩ : ByteArray) = bs [40] from rfl, sign_f, if_pos (by simp)]
            simp
      · obtain ⟨t, r, bad, m1, m2, m3⟩ := text_total ((it + 1 : Nat) : Int) l (by omega)
        refine ⟨⟨t, false, []⟩, r, it + 1, bad, m2, by omega, fun hb => ?_, ?_⟩
        · obtain ⟨n1, n2⟩ := m3 hb
          exact ⟨n1, by simp [right, flat, rights], by simp only [dp, dps]; omega, by simp only [cnt, cnts], by omega, n2⟩
        · refine hf _ ?_
          refine Ev.step (f := fun k => (item_reader_text.f k (bs l) ((it + 1 : Nat) : Int) false).bind fun q => some (q.1, false, [], q.2.1, q.2.2.1, q.2.2.2)) (fun k => ?_) (Ev.bind m1 (Ev.now _))
          simp only [item_reader_item.j0]
          rw [if_neg (by decide), show (⟨#[40]⟩ : ByteArray) = bs [40] from rfl, sign_f, if_neg h40]
          simp
end Go.Proofs.Ytkdkdjhdoplicaa.It
