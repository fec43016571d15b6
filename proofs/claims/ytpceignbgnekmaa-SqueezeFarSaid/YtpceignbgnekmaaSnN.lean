/- What a literal lays, and a copy behind it: in plain lists. -/
import Derived.Test.YtpceignbgnekmaaSnK
namespace Go.Proofs.Ytpceignbgnekmaa.Sn
open Go.RowKit Go.Proofs.YtpceignbgnekmaaW.PrintWords Go.Proofs.Ytpceignbgnekmaa.By Go.Proofs.Ytpceignbgnekmaa.Md Go.Proofs.Ytpceignbgnekmaa.Cur Go.Proofs.Ytpceignbgnekmaa.Next

theorem bt_of {b : ByteArray} {l : List Int} (h : bytesOf b = l) (i : Nat) {x : Int} (hx : l[i]? = some x) : bt b i = x := by
  rw [← h] at hx
  obtain ⟨hl, e⟩ := List.getElem?_eq_some_iff.1 hx
  rw [bt_get b i hl, e]

theorem szF_one {b : ByteArray} {x : Int} {l : List Int} (h : bytesOf b = x :: l) (hx : x < 128) : szF b = (x, 1, 0) := by
  have h0 := bt_of h 0 (x := x) rfl
  have hr := bt_range b ((0 : Nat) : Int)
  have hs : b.size = l.length + 1 := by rw [size_eq, h]; rfl
  have hn : nx b (b.size + 1) 0 0 = (x, 1, 0) := by
    rw [nx, if_neg (by omega), if_neg (by omega), if_neg (by omega), if_pos (by rw [h0]; exact hx), h0]
    rw [h0] at hr
    simp only [Nat.mul_zero, Int.pow_zero, Int.mul_one]
    congr 1
    · omega
  unfold szF
  rw [hn]
  rw [h0] at hr
  dsimp only
  rw [if_pos rfl, if_neg (by omega)]

theorem szF_two {b : ByteArray} {x : Int} {l : List Int} (h : bytesOf b = x :: 1 :: l) (hx : 128 ≤ x) : szF b = (x, 2, 0) := by
  have h0 := bt_of h 0 (x := x) rfl
  have h1 := bt_of h 1 (x := 1) rfl
  have hr := bt_range b ((0 : Nat) : Int)
  have hs : b.size = l.length + 1 + 1 := by rw [size_eq, h]; rfl
  have hn : nx b (b.size + 1) 0 0 = (x, 2, 0) := by
    rw [nx, if_neg (by omega), if_neg (by omega), if_neg (by omega), if_neg (by rw [h0]; omega), hs, nx, if_neg (by omega), if_neg (by omega), if_neg (by rw [h1]; omega), if_pos (by rw [h1]; omega), h0, h1]
    rw [h0] at hr
    congr 1
    · simp
      omega
  unfold szF
  rw [hn]
  rw [h0] at hr
  dsimp only
  rw [if_pos rfl, if_neg (by omega)]

/-- one literal more -/
theorem run_lit {n : Int} {t : ByteArray} {fuel : Nat} {xs hb ys l0 l1 : List Int} {a v m : Nat} (h : bytesOf t = l0 ++ (hb ++ (ys ++ l1))) (ha : a = l0.length) (hv : v ≤ 63) (hh : hd v 0 = hb.length) (h0 : hb[0]? = some (4 * (v : Int)))
    (hl : (if 60 ≤ v then leN (hb.drop 1) + 1 else (v : Int) + 1) = m) (hm : ys.length = m) (hn : (xs.length : Int) + m ≤ n) :
    run n t (fuel + 1) xs a = run n t fuel (xs ++ ys) (a + hb.length + m) := by
  have hts : t.size = l0.length + (hb.length + (ys.length + l1.length)) := by rw [size_eq, h]; simp
  have hb1 : 1 ≤ hb.length := by
    obtain ⟨h1, _⟩ := List.getElem?_eq_some_iff.1 h0
    omega
  have hbt : bt t a = 4 * (v : Int) := by
    rw [ha]
    refine bt_of h _ ?_
    rw [List.getElem?_append_right (Nat.le_refl _), Nat.sub_self, List.getElem?_append_left (by omega)]
    exact h0
  have hvk : vk t a = v := by unfold vk; rw [hbt]; omega
  have hkk : kk t a = 0 := by unfold kk; rw [hbt]; omega
  have hre : bytesOf (t.extract (a + 1) (a + hb.length)) = hb.drop 1 := by
    rw [bytes_extract, h, ha, List.take_append, List.take_of_length_le (by omega), Nat.add_sub_cancel_left, List.take_left', List.drop_append, Nat.add_sub_cancel_left, List.drop_of_length_le (by omega)]
    · rfl
    · rfl
  have hLen : litLen v (t.extract (a + 1) (a + hd v 0)) = m := by
    rw [hh]
    unfold litLen
    rw [hre, hl]
  have hye : bytesOf (t.extract (a + hb.length) (a + hb.length + m)) = ys := by
    rw [bytes_extract, h, ← List.append_assoc, show a + hb.length = (l0 ++ hb).length by rw [ha, List.length_append], List.take_append, List.take_of_length_le (by omega), Nat.add_sub_cancel_left, ← hm, List.take_left', List.drop_left']
    · rfl
    · rfl
  have e := elem_lit (size := n) (s := t) (xs := xs) (a := a) (v := v) (by omega) (by rw [hh]; omega)
  rw [hLen, hh, litN_ok (by omega) (by omega) (by omega), Int.toNat_natCast, hye] at e
  rw [run, if_pos (by omega), hvk, hkk, e]
  rfl

/-- one copy more, of the kind with two bytes -/
theorem run_mid {n : Int} {t : ByteArray} {fuel : Nat} {xs l0 l1 : List Int} {a v : Nat} {x y : Int} (h : bytesOf t = l0 ++ ((4 * (v : Int) + 2) :: x :: y :: l1)) (ha : a = l0.length) (hv : v ≤ 63)
    (hback : 0 < x + 256 * y ∧ x + 256 * y ≤ xs.length) (hn : (xs.length : Int) + (v + 1) ≤ n) :
    run n t (fuel + 1) xs a = run n t fuel (rep (x + 256 * y).toNat (v + 1) xs) (a + 3) := by
  have hts : t.size = l0.length + (l1.length + 1 + 1 + 1) := by rw [size_eq, h]; simp
  have hbt : bt t a = 4 * (v : Int) + 2 := by
    rw [ha]
    refine bt_of h _ ?_
    rw [List.getElem?_append_right (Nat.le_refl _), Nat.sub_self]
    rfl
  have hvk : vk t a = v := by unfold vk; rw [hbt]; omega
  have hkk : kk t a = 2 := by unfold kk; rw [hbt]; omega
  have hre : bytesOf (t.extract (a + 1) (a + 3)) = [x, y] := by
    rw [bytes_extract, h, ha, List.take_append, List.take_of_length_le (by omega), Nat.add_sub_cancel_left, List.drop_append, Nat.add_sub_cancel_left, List.drop_of_length_le (by omega)]
    rfl
  have e := elem_cp (size := n) (s := t) (xs := xs) (a := a) (v := v) (k := 2) (by decide) (by show ¬ _ < 3; omega)
  have hB : cpBack v 2 (t.extract (a + 1) (a + hd v 2)) = x + 256 * y := by
    show leN (bytesOf (t.extract (a + 1) (a + 3))) = _
    rw [hre]
    simp [leN]
  have hC : cpLen v 2 = ((v + 1 : Nat) : Int) := rfl
  rw [hB, hC, cp_ok (by omega), Int.toNat_natCast] at e
  rw [run, if_pos (by omega), hvk, hkk, e]
  rfl

theorem run_end {n : Int} {t : ByteArray} {fuel : Nat} {xs : List Int} {a : Nat} (h : t.size ≤ a) : run n t fuel xs a = (xs, 0) := by
  cases fuel with
  | zero => rfl
  | succ k => rw [run, if_neg (by omega)]

/-- all of a block whose elements lay just its size -/
theorem out_of {b t : ByteArray} {l : List Int} {n : Int} {kn : Nat} {xs : List Int} {most : Int} (hsz : szF b = (n, (kn : Int), 0)) (hm : n ≤ most) (ht : bytesOf b = l ++ bytesOf t) (hl : l.length = kn)
    (hr : run n t (t.size + 1) [] 0 = (xs, 0)) (hx : (xs.length : Int) = n) : outF b most = (strOfNums xs, 0) := by
  have e : b.extract kn b.size = t := by
    apply bytes_inj
    rw [bytes_extract, List.take_of_length_le (by rw [bytesOf_length]; omega), ht, ← hl, List.drop_left']
    rfl
  unfold outF
  rw [hsz]
  dsimp only
  rw [if_neg (fun h => h rfl), if_neg (by omega), Int.toNat_natCast, e, hr]
  unfold fin
  dsimp only
  rw [if_neg (fun h => h rfl), if_neg (by omega)]

theorem rep_round (b : Nat) (hb : 0 < b) (base : List Int) : ∀ (k : Nat) (ys : List Int), b ≤ ys.length → (∀ i, i < ys.length → ys.getD i 0 = base.getD (i % b) 0) → ∀ i, i < ys.length + k → (rep b k ys).getD i 0 = base.getD (i % b) 0
  | 0, ys, _, h, i, hi => h i hi
  | k + 1, ys, hy, h, i, hi => by
    rw [rep]
    refine rep_round b hb base k _ (by rw [List.length_append]; omega) ?_ i (by rw [List.length_append, List.length_singleton]; omega)
    intro j hj
    rw [List.length_append, List.length_singleton] at hj
    by_cases hjl : j < ys.length
    · rw [List.getD_eq_getElem?_getD, List.getElem?_append_left hjl, ← List.getD_eq_getElem?_getD]
      exact h j hjl
    · obtain rfl : j = ys.length := by omega
      rw [List.getD_eq_getElem?_getD, List.getElem?_append_right (Nat.le_refl _), Nat.sub_self]
      show ys.getD (ys.length - b) 0 = _
      rw [h _ (by omega), ← Nat.mod_eq_sub_mod hy]
end Go.Proofs.Ytpceignbgnekmaa.Sn
