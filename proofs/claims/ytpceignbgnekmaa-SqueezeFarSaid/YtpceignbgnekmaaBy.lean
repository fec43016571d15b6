/- Strings as lists of numbers: cuts, sums, and back. -/
import Derived.Test.YtpceignbgnekmaaWWords
namespace Go.Proofs.Ytpceignbgnekmaa.By
open Go.RowKit Go.Proofs.YtpceignbgnekmaaW.PrintWords

theorem ext {a b : ByteArray} (h : a.data.toList = b.data.toList) : a = b := by
  cases a; cases b; simp at h; simpa using Array.toList_inj.1 (by simpa using h)

theorem str_bytes (s : ByteArray) : strOfNums (bytesOf s) = s := by
  apply ext
  rw [strOfNums_data, bytesOf, List.map_map]
  conv => rhs; rw [← List.map_id s.data.toList]
  apply List.map_congr_left
  intro b _
  simp

def InByte (xs : List Int) : Prop := ∀ x ∈ xs, 0 ≤ x ∧ x < 256

theorem InByte.cons {x : Int} {xs : List Int} (h : 0 ≤ x ∧ x < 256) (hs : InByte xs) : InByte (x :: xs) := by
  intro y hy
  rcases List.mem_cons.1 hy with rfl | hy
  · exact h
  · exact hs y hy

theorem InByte.append {xs ys : List Int} (h : InByte xs) (hs : InByte ys) : InByte (xs ++ ys) := by
  intro y hy
  rcases List.mem_append.1 hy with hy | hy
  · exact h y hy
  · exact hs y hy

theorem InByte.nil : InByte [] := by intro y hy; cases hy

theorem bytes_in (s : ByteArray) : InByte (bytesOf s) := by
  intro x hx
  unfold bytesOf at hx
  obtain ⟨b, _, rfl⟩ := List.mem_map.1 hx
  have := b.toNat_lt
  omega

theorem InByte.take {xs : List Int} (h : InByte xs) (n : Nat) : InByte (xs.take n) := fun x hx => h x (List.mem_of_mem_take hx)
theorem InByte.drop {xs : List Int} (h : InByte xs) (n : Nat) : InByte (xs.drop n) := fun x hx => h x (List.mem_of_mem_drop hx)

theorem bytes_str {xs : List Int} (h : InByte xs) : bytesOf (strOfNums xs) = xs := by
  unfold bytesOf
  rw [strOfNums_data, List.map_map]
  conv => rhs; rw [← List.map_id xs]
  apply List.map_congr_left
  intro x hx
  have := h x hx
  simp only [Function.comp, id]
  rw [UInt8.toNat_ofNat']
  omega

theorem append_str (xs ys : List Int) : strOfNums xs ++ strOfNums ys = strOfNums (xs ++ ys) := by
  apply ext
  rw [strOfNums_data, ByteArray.data_append, Array.toList_append, strOfNums_data, strOfNums_data, List.map_append]

theorem bytes_append (a b : ByteArray) : bytesOf (a ++ b) = bytesOf a ++ bytesOf b := by
  unfold bytesOf
  rw [ByteArray.data_append, Array.toList_append, List.map_append]

theorem extract_data (s : ByteArray) (a b : Nat) : (s.extract a b).data.toList = (s.data.toList.take b).drop a := by
  rw [ByteArray.data_extract, Array.toList_extract, List.extract_eq_take_drop, List.drop_take]

theorem bytes_extract (s : ByteArray) (a b : Nat) : bytesOf (s.extract a b) = ((bytesOf s).take b).drop a := by
  unfold bytesOf
  rw [extract_data, List.map_drop, List.map_take]

theorem bt_get (s : ByteArray) (i : Nat) (h : i < (bytesOf s).length) : bt s i = (bytesOf s)[i] := by
  rw [← rd_bytesOf]
  simp [rd, List.getD_eq_getElem?_getD, List.getElem?_eq_getElem h]

theorem bytes_inj {a b : ByteArray} (h : bytesOf a = bytesOf b) : a = b := by
  rw [← str_bytes a, h, str_bytes]

theorem size_eq (s : ByteArray) : s.size = (bytesOf s).length := (bytesOf_length s).symm

end Go.Proofs.Ytpceignbgnekmaa.By
