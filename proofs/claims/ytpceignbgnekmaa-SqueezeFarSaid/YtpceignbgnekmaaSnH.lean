/- The document's snap: its small functions as numbers; an element in its words. -/
import Derived.Test.YtpceignbgnekmaaSnF
import Derived.Test.YtpceignbgnekmaaPSqueezePacksx2
namespace Go.Proofs.Ytpceignbgnekmaa.Sn
open Go.RowKit Go.Proofs.YtpceignbgnekmaaW.PrintWords Go.Proofs.Ytpceignbgnekmaa.By Go.Proofs.Ytpceignbgnekmaa.Md Go.Proofs.Ytpceignbgnekmaa.Cur Go.Proofs.Ytpceignbgnekmaa.PSqueezePacks

def hd (v k : Nat) : Nat := if k = 0 then (if 60 ≤ v then v - 58 else 1) else if k = 1 then 2 else if k = 2 then 3 else 5

theorem heads_f (v k : Nat) (hv : v ≤ 63) (hk : k < 4) : hatchwayref11_heads.f ((4 * v + k : Nat) : Int) = some ((hd v k : Nat) : Int) := by
  unfold hatchwayref11_heads.f hd
  have h1 : Int.tmod ((4 * v + k : Nat) : Int) 4 = (k : Int) := by rw [Int.tmod_eq_emod_of_nonneg (by omega)]; omega
  have h2 : wrap64 (Int.tdiv ((4 * v + k : Nat) : Int) 4) = (v : Int) := by rw [Int.tdiv_eq_ediv_of_nonneg (by omega)]; unfold wrap64; omega
  rw [h1, h2]
  have h3 : wrap64 (wrap64 (1 + (v : Int)) - 59) = (v : Int) - 58 := by unfold wrap64; omega
  rw [h3]
  obtain rfl | rfl | rfl | rfl : k = 0 ∨ k = 1 ∨ k = 2 ∨ k = 3 := by omega
  · by_cases h : 60 ≤ v
    · rw [if_pos (by rfl), if_pos (by omega), if_pos rfl, if_pos h]
      congr 1
      omega
    · rw [if_pos (by rfl), if_neg (by omega), if_pos rfl, if_neg h]
      rfl
  · rfl
  · rfl
  · rfl

/-- a number of some bytes, the first of most worth -/
def beN (l : List Int) (m : Int) : Int := l.foldl (fun m b => 256 * m + b) m

theorem beN_le : ∀ (l : List Int), beN l.reverse 0 = leN l
  | [] => rfl
  | b :: l => by
    have h := beN_le l
    unfold beN at h ⊢
    rw [List.reverse_cons, List.foldl_append, h]
    simp only [List.foldl_cons, List.foldl_nil, leN]
    omega

theorem pow6 (i : Nat) (h : i ≤ 6) : (256 : Int) ^ i ≤ 281474976710656 := by
  obtain rfl | rfl | rfl | rfl | rfl | rfl | rfl : i = 0 ∨ i = 1 ∨ i = 2 ∨ i = 3 ∨ i = 4 ∨ i = 5 ∨ i = 6 := by omega
  all_goals decide
theorem number_l0 (s : ByteArray) (hs : s.size ≤ 7) : ∀ (j i : Nat) (m : Int), i + j = s.size → 0 ≤ m → m < 256 ^ i → hatchwayref02_Number.l0 (j + 1) s m i = some (beN ((bytesOf s).drop i) m)
  | 0, i, m, hi, h0, h1 => by
    unfold hatchwayref02_Number.l0
    rw [if_neg (by omega), List.drop_of_length_le (by rw [bytesOf_length]; omega)]
    rfl
  | j + 1, i, m, hi, h0, h1 => by
    have hil : i < (bytesOf s).length := by rw [bytesOf_length]; omega
    have hb := bt_range s i
    have hp : (256 : Int) ^ (i + 1) = 256 ^ i * 256 := Int.pow_succ ..
    have h6 := pow6 i (by omega)
    have ih := number_l0 s hs j (i + 1) (256 * m + bt s i) (by omega) (by omega) (by omega)
    rw [hatchwayref02_Number.l0, if_pos (by omega), if_pos (by omega)]
    have e1 : IntKind.u64.wrap (IntKind.u64.wrap (256 * m) + IntKind.u64.wrap (bt s i)) = 256 * m + bt s i := by
      rw [IntKind.wrap_u64, IntKind.wrap_u64, IntKind.wrap_u64]
      omega
    have e2 : wrap64 ((i : Int) + 1) = ((i + 1 : Nat) : Int) := by unfold wrap64; omega
    rw [e1, e2, ih, List.drop_eq_getElem_cons hil]
    simp only [beN, List.foldl_cons]
    rw [bt_get s i hil]

theorem turned_l0 (s : ByteArray) (hs : s.size ≤ 7) : ∀ (j i : Nat) (r : ByteArray), i + j = s.size → r.size = i → hatchwayref02_Turned.l0 (j + 1) s r i = some (strOfNums (((bytesOf s).drop i).reverse) ++ r)
  | 0, i, r, hi, hr => by
    unfold hatchwayref02_Turned.l0
    rw [if_neg (by omega), List.drop_of_length_le (by rw [bytesOf_length]; omega)]
    congr 1
  | j + 1, i, r, hi, hr => by
    have hil : i < (bytesOf s).length := by rw [bytesOf_length]; omega
    have e2 : wrap64 ((i : Int) + 1) = ((i + 1 : Nat) : Int) := by unfold wrap64; omega
    have hex : (s.extract i (i + 1)).size = 1 := by rw [ByteArray.size_extract]; omega
    have ih := turned_l0 s hs j (i + 1) (s.extract i (i + 1) ++ r) (by omega) (by rw [ByteArray.size_append, hex, hr]; omega)
    rw [hatchwayref02_Turned.l0, if_pos (by omega), if_pos (by omega), e2]
    simp only [Int.toNat_natCast]
    rw [if_pos (by omega), if_pos (by omega), if_pos (by rw [hex, hr]; omega), ih]
    congr 1
    apply bytes_inj
    have hin := bytes_in s
    rw [bytes_append, bytes_append, bytes_append, bytes_str (fun x hx => hin x (List.mem_of_mem_drop (List.mem_reverse.1 hx))), bytes_str (fun x hx => hin x (List.mem_of_mem_drop (List.mem_reverse.1 hx))), bytes_extract, List.drop_eq_getElem_cons hil, List.reverse_cons, List.append_assoc]
    congr 1
    congr 1
    rw [List.take_succ_eq_append_getElem hil, List.drop_append_of_le_length (by simp; omega), List.drop_of_length_le (by rw [List.length_take]; omega)]
    rfl

theorem little_f (r : ByteArray) (hr : r.size ≤ 4) : hatchwayref11_little.f (r.size + 1) r = some (leN (bytesOf r)) := by
  unfold hatchwayref11_little.f hatchwayref02_Turned.f hatchwayref02_Number.f
  have hin : InByte (bytesOf r).reverse := fun x hx => bytes_in r x (List.mem_reverse.1 hx)
  have h1 := turned_l0 r (by omega) r.size 0 ⟨#[]⟩ (by omega) rfl
  rw [show ((0 : Nat) : Int) = 0 from rfl, List.drop_zero] at h1
  have e1 : strOfNums (bytesOf r).reverse ++ (⟨#[]⟩ : ByteArray) = strOfNums (bytesOf r).reverse := by
    apply bytes_inj
    rw [bytes_append]
    exact List.append_nil _
  rw [e1] at h1
  have hs : (strOfNums (bytesOf r).reverse).size = r.size := by rw [strOfNums_size, List.length_reverse, bytesOf_length]
  have h2 := number_l0 (strOfNums (bytesOf r).reverse) (by omega) r.size 0 0 (by omega) (by decide) (by decide)
  rw [show ((0 : Nat) : Int) = 0 from rfl, List.drop_zero, bytes_str hin, beN_le] at h2
  have hb := leN_bound (bytesOf r) (bytes_in r)
  have hp := pow6 (bytesOf r).length (by rw [bytesOf_length]; omega)
  rw [h1, Option.bind_some, h2, Option.bind_some]
  congr 1
  unfold wrap64
  omega

theorem tk_short {s : ByteArray} {a : Nat} {n : Int} (h0 : 0 ≤ n) (h : ((s.size - a : Nat) : Int) < n) : tk s a 0 n = (⟨#[]⟩, a, 2) := by
  rw [tk, if_neg (fun h => h rfl), if_neg (by omega), if_pos h]
theorem tk_fits {s : ByteArray} {a : Nat} {n : Int} (h0 : 0 ≤ n) (h : ¬ ((s.size - a : Nat) : Int) < n) : tk s a 0 n = (s.extract a (a + n.toNat), a + n.toNat, 0) := by
  rw [tk, if_neg (fun h => h rfl), if_neg (by omega), if_neg h]
theorem tk_fault {s : ByteArray} {a : Nat} {f n : Int} (h : f ≠ 0) : tk s a f n = (⟨#[]⟩, a, f) := by rw [tk, if_pos h]
theorem roomF_fault {size : Int} {len : Nat} {f n : Int} (h : f ≠ 0) : roomF size len f n = f := by rw [roomF, if_neg (fun g => h g.1)]
theorem roomF_form {size : Int} {len : Nat} {n : Int} (h : size - len < n) : roomF size len 0 n = 3 := by rw [roomF, if_pos ⟨rfl, h⟩]
theorem roomF_ok {size : Int} {len : Nat} {n : Int} (h : ¬ size - len < n) : roomF size len 0 n = 0 := by rw [roomF, if_neg (fun g => h g.2)]
theorem litN_fault {size : Int} {s : ByteArray} {xs : List Int} {a : Nat} {f n : Int} (h : f ≠ 0) : (litN size s (xs, a, f) n).2.2 = f := by
  unfold litN
  dsimp only
  rw [roomF_fault h, tk_fault h]
theorem litN_form {size : Int} {s : ByteArray} {xs : List Int} {a : Nat} {n : Int} (h : size - xs.length < n) : (litN size s (xs, a, 0) n).2.2 = 3 := by
  unfold litN
  dsimp only
  rw [roomF_form h, tk_fault (by decide)]
theorem litN_short {size : Int} {s : ByteArray} {xs : List Int} {a : Nat} {n : Int} (h : ¬ size - xs.length < n) (h0 : 0 ≤ n) (hs : ((s.size - a : Nat) : Int) < n) : (litN size s (xs, a, 0) n).2.2 = 2 := by
  unfold litN
  dsimp only
  rw [roomF_ok h, tk_short h0 hs]
theorem litN_ok {size : Int} {s : ByteArray} {xs : List Int} {a : Nat} {n : Int} (h : ¬ size - xs.length < n) (h0 : 0 ≤ n) (hs : ¬ ((s.size - a : Nat) : Int) < n) : litN size s (xs, a, 0) n = (xs ++ bytesOf (s.extract a (a + n.toNat)), a + n.toNat, 0) := by
  unfold litN
  dsimp only
  rw [roomF_ok h, tk_fits h0 hs]
theorem cp_fault {size : Int} {xs : List Int} {a : Nat} {f n b : Int} (h : f ≠ 0) : (cp size (xs, a, f) n b).2.2 = f := by
  unfold cp
  dsimp only
  have : cpF xs.length f b = f := by rw [cpF, if_neg (fun g => h g.2)]
  rw [this, roomF_fault h, if_neg h]
theorem cp_form {size : Int} {xs : List Int} {a : Nat} {n b : Int} (h : b = 0 ∨ (xs.length : Int) < b ∨ size - xs.length < n) : (cp size (xs, a, 0) n b).2.2 = 3 := by
  unfold cp
  dsimp only
  by_cases h1 : b = 0 ∨ (xs.length : Int) < b
  · have : cpF xs.length 0 b = 3 := by rw [cpF, if_pos ⟨h1, rfl⟩]
    rw [this, roomF_fault (by decide), if_neg (by decide)]
  · have : cpF xs.length 0 b = 0 := by rw [cpF, if_neg (fun g => h1 g.1)]
    rw [this, roomF_form (by omega), if_neg (by decide)]
theorem cp_ok {size : Int} {xs : List Int} {a : Nat} {n b : Int} (h : ¬ (b = 0 ∨ (xs.length : Int) < b ∨ size - xs.length < n)) : cp size (xs, a, 0) n b = (rep b.toNat n.toNat xs, a, 0) := by
  unfold cp
  dsimp only
  have : cpF xs.length 0 b = 0 := by rw [cpF, if_neg (fun g => h (by omega))]
  rw [this, roomF_ok (by omega), if_pos rfl]

theorem elem_short {size : Int} {s : ByteArray} {xs : List Int} {a v k : Nat} (ha : a < s.size) (h : s.size - a < hd v k) : (elem size s (xs, a + 1, 0) v k).2.2 = 2 := by
  unfold hd at h
  have hfar : ∀ m : Nat, s.size - a < 1 + m → (far size s (xs, a + 1, 0) m v).2.2 = 2 := by
    intro m hm
    unfold far
    dsimp only
    rw [tk_short (by omega) (by omega)]
    exact cp_fault (f := 2) (by decide)
  unfold elem
  split at h
  · rename_i hk
    rw [if_pos hk]
    split at h
    · unfold lit
      dsimp only
      rw [if_pos (by omega), tk_short (by omega) (by omega)]
      exact litN_fault (f := 2) (by decide)
    · omega
  · rename_i hk
    rw [if_neg hk]
    split at h
    · rename_i hk1
      rw [if_pos hk1]
      unfold near
      dsimp only
      rw [tk_short (by omega) (by omega)]
      exact cp_fault (f := 2) (by decide)
    · rename_i hk1
      rw [if_neg hk1]
      split at h
      · rename_i hk2
        rw [if_pos hk2]
        exact hfar 2 (by omega)
      · rename_i hk2
        rw [if_neg hk2]
        exact hfar 4 (by omega)

/-- how long a literal is, how long a copy, from how far -/
def litLen (v : Nat) (r : ByteArray) : Int := if 60 ≤ v then leN (bytesOf r) + 1 else v + 1
def cpLen (v k : Nat) : Int := if k = 1 then ((4 + v % 8 : Nat) : Int) else v + 1
def cpBack (v k : Nat) (r : ByteArray) : Int := if k = 1 then ((v / 8 * 256 : Nat) : Int) + leN (bytesOf r) else leN (bytesOf r)

theorem elem_lit {size : Int} {s : ByteArray} {xs : List Int} {a v : Nat} (ha : a < s.size) (h : ¬ s.size - a < hd v 0) : elem size s (xs, a + 1, 0) v 0 = litN size s (xs, a + hd v 0, 0) (litLen v (s.extract (a + 1) (a + hd v 0))) := by
  unfold hd at h ⊢
  rw [if_pos rfl] at h ⊢
  unfold elem lit litLen
  rw [if_pos rfl]
  dsimp only
  by_cases h60 : 60 ≤ v
  · rw [if_pos h60] at h ⊢
    rw [if_pos (by omega), tk_fits (by omega) (by omega), if_pos h60]
    have e1 : a + 1 + ((v : Int) - 59).toNat = a + (v - 58) := by omega
    rw [e1]
  · rw [if_neg h60, if_neg (by omega), if_neg h60]
theorem elem_cp {size : Int} {s : ByteArray} {xs : List Int} {a v k : Nat} (hk : k ≠ 0) (h : ¬ s.size - a < hd v k) : elem size s (xs, a + 1, 0) v k = cp size (xs, a + hd v k, 0) (cpLen v k) (cpBack v k (s.extract (a + 1) (a + hd v k))) := by
  unfold hd at h ⊢
  rw [if_neg hk] at h ⊢
  unfold elem cpLen cpBack
  rw [if_neg hk]
  have hfar : ∀ m : Nat, ¬ s.size - a < 1 + m → far size s (xs, a + 1, 0) m v = cp size (xs, a + (1 + m), 0) (v + 1) (leN (bytesOf (s.extract (a + 1) (a + (1 + m))))) := by
    intro m hm
    unfold far
    dsimp only
    rw [tk_fits (by omega) (by omega)]
    have e1 : a + 1 + ((m : Nat) : Int).toNat = a + (1 + m) := by omega
    rw [e1]
  by_cases h1 : k = 1
  · rw [if_pos h1] at h ⊢
    rw [if_pos h1, if_pos h1, if_pos h1]
    unfold near
    dsimp only
    rw [tk_fits (by omega) (by omega)]
    rfl
  · rw [if_neg h1] at h ⊢
    rw [if_neg h1, if_neg h1, if_neg h1]
    by_cases h2 : k = 2
    · rw [if_pos h2] at h ⊢
      rw [if_pos h2]
      exact hfar 2 (by omega)
    · rw [if_neg h2] at h ⊢
      rw [if_neg h2]
      exact hfar 4 (by omega)
end Go.Proofs.Ytpceignbgnekmaa.Sn
