/- The document's elements, by a contract. -/
import Derived.Test.YtpceignbgnekmaaSnH
namespace Go.Proofs.Ytpceignbgnekmaa.Sn
open Go.RowKit Go.Proofs.YtpceignbgnekmaaW.PrintWords Go.Proofs.Ytpceignbgnekmaa.By Go.Proofs.Ytpceignbgnekmaa.Md Go.Proofs.Ytpceignbgnekmaa.Cur Go.Proofs.Ytpceignbgnekmaa.PSqueezePacks

theorem heads_calls (v k : Nat) (hv : v ≤ 63) (hk : k < 4) (w : World) : Calls Try.prog 62 #[.int .i64 ((4 * v + k : Nat) : Int)] w fun e w' => e = .returned (.int .i64 ((hd v k : Nat) : Int)) ∧ Drawn0 w w' :=
  hatchwayref11_heads.calls _ _ w (heads_f v k hv hk)
theorem lit_calls' (r : ByteArray) (hr : r.size ≤ 4) (w : World) : Calls Try.prog 63 #[.string r] w fun e w' => e = .returned (.int .i64 (leN (bytesOf r))) ∧ Drawn0 w w' :=
  hatchwayref11_little.calls _ r _ w (little_f r hr)

/-- what is written row by row -/
structure Ow (B : Nat) (w0 w : World) (A : Option Addr) (c : Nat) (xs : List Int) : Prop where
  own : w.ownsRow B 5 1 (.slice A xs.length c) xs.length (nums .u8 xs)
  below : Below B w0 w
  base : B ≤ w.heap.size
theorem Ow.drawn {B : Nat} {w0 w w' : World} {A : Option Addr} {c : Nat} {xs : List Int} (h : Ow B w0 w A c xs) (hd : Drawn0 w w') : Ow B w0 w' A c xs := by
  obtain ⟨⟨n, rfl⟩⟩ := hd
  exact ⟨h.own, pw_below_drewN h.below n, h.base⟩
theorem Ow.grown {B : Nat} {w0 w w' : World} {A A' : Option Addr} {c c' : Nat} {xs ys : List Int} (h : Ow B w0 w A c xs) (hg : w.grownBy w' (Value.slice A xs.length c).ownBlock) (ho : w'.ownsRow B 5 1 (.slice A' ys.length c') ys.length (nums .u8 ys)) : Ow B w0 w' A' c' ys :=
  ⟨ho, h.below.grown hg h.base (fun k hk => (h.own.lt k hk).1), Nat.le_trans h.base hg.size⟩
theorem Ow.alloc {B : Nat} {w0 w : World} {A : Option Addr} {c : Nat} {xs : List Int} (h : Ow B w0 w A c xs) (o : Obj) : Ow B w0 (w.alloc o) A c xs :=
  ⟨h.own.alloc o, h.below.alloc h.base o, Nat.le_trans h.base (by simp)⟩
theorem Ow.drew {B : Nat} {w0 w : World} {A : Option Addr} {c : Nat} {xs : List Int} (h : Ow B w0 w A c xs) : Ow B w0 w.drew A c xs := ⟨h.own, h.below.drew, h.base⟩
theorem Ow.bytes {B : Nat} {w0 w : World} {A : Option Addr} {c : Nat} {xs : List Int} (h : Ow B w0 w A c xs) (s : ByteArray) : Ow B w0 (Lib.bytesWorld w 5 s) A c xs :=
  ⟨pw_own_below h.own (bytes_below (Below.refl w.heap.size w) (Nat.le_refl _) 5 s), bytes_below h.below h.base 5 s, by rw [Lib.bytesWorld_size]; have := h.base; omega⟩

section
variable {ops : Array Oper} {rest : List Oper} {o : Oper} {a : Act} {Q : Exit → Act → World → Prop}
/-- append(v, []byte(s)...) -/
theorem wp_append_bytes {W : World} (hgd : o.guard = none) (sl x : Operand) (ho : o.op = .call { callee := .builtin .append, args := #[sl, x], argTypes := #[32, 32] })
    (base : Nat) (v : Value) (xs : List Int) (hs : a.eval sl = v) (s : ByteArray) (hown : (Lib.bytesWorld W 5 s).ownsRow base 5 1 v xs.length (nums .u8 xs)) (c : Nat) (hx : a.eval x = .slice (some ⟨W.heap.size, 0, none⟩) s.size c)
    (hbytes : xs.length + s.size ≤ 140737488355328) (hbase : base ≤ W.heap.size)
    (h : ∀ A' c' w', w'.ownsRow base 5 1 (.slice A' (xs ++ bytesOf s).length c') (xs ++ bytesOf s).length (nums .u8 (xs ++ bytesOf s)) → (Lib.bytesWorld W 5 s).grownBy w' v.ownBlock → wpList Try.prog ops Q rest (a.put o.dst (.slice A' (xs ++ bytesOf s).length c')) w') :
    wpList Try.prog ops Q (o :: rest) a (Lib.bytesWorld W 5 s) := by
  obtain ⟨i0, hi, hz⟩ := Option.map_eq_some_iff.1 info5
  simp only [Prod.mk.injEq] at hz
  obtain ⟨hz0, hz1, hz2⟩ := hz
  refine wpList_append_own_at _ hgd sl x 32 ho base 5 i0 (.int .u8 0) 1 1 Try.underlying32 hi hz0 hz1 hz2 rfl (by decide) v xs.length (nums .u8 xs) hs hown ⟨W.heap.size, 0, none⟩ s.size c (nums .u8 (bytesOf s)) hx
    (by simp [nums, bytesOf_length]) ?_ ?_ (by simp only [maxLen]; omega) (by omega) (by rw [Lib.bytesWorld_size]; omega) ?_
  · intro j u hu
    have hj : j < s.size := by
      have h1 := (List.getElem?_eq_some_iff.1 hu).1
      simpa [nums, bytesOf_length] using h1
    obtain ⟨ad, he, hc⟩ := (bytes_reads W 5 s (by omega)).2.2 (by omega)
    cases he
    rw [hc j hj]
    have hjl : j < (bytesOf s).length := by rw [bytesOf_length]; exact hj
    simp only [nums, List.getElem?_map, List.getElem?_eq_getElem hjl, Option.map_some] at hu
    rw [← hu, List.getD_eq_getElem?_getD, List.getElem?_eq_getElem hjl]
    rfl
  · intro u hu
    simp only [nums, List.mem_map] at hu
    obtain ⟨b, _, rfl⟩ := hu
    rfl
  · intro v' w' h1 h2 _ _
    rw [← nums_append] at h1
    have hl : xs.length + s.size = (xs ++ bytesOf s).length := by rw [List.length_append, bytesOf_length]
    rw [hl] at h1
    obtain ⟨A', c', rfl⟩ := own_slice h1
    exact h A' c' w' h1 h2
/-- append(v, y), the byte in a block of its own -/
theorem wp_append_byte {W : World} (hgd : o.guard = none) (sl x : Operand) (ho : o.op = .call { callee := .builtin .append, args := #[sl, x], argTypes := #[32, 32] })
    (base : Nat) (v : Value) (xs : List Int) (y : Int) (hs : a.eval sl = v) (hown : W.ownsRow base 5 1 v xs.length (nums .u8 xs)) (G c : Nat) (hx : a.eval x = .slice (some ⟨G, 0, none⟩) 1 c) (hG : W.heap[G]? = some (.cells #[.int .u8 y] 5 (0, 0)))
    (hbytes : xs.length + 1 ≤ 140737488355328) (hbase : base ≤ W.heap.size)
    (h : ∀ A' c' w', w'.ownsRow base 5 1 (.slice A' (xs ++ [y]).length c') (xs ++ [y]).length (nums .u8 (xs ++ [y])) → W.grownBy w' v.ownBlock → wpList Try.prog ops Q rest (a.put o.dst (.slice A' (xs ++ [y]).length c')) w') :
    wpList Try.prog ops Q (o :: rest) a W := by
  obtain ⟨i0, hi, hz⟩ := Option.map_eq_some_iff.1 info5
  simp only [Prod.mk.injEq] at hz
  obtain ⟨hz0, hz1, hz2⟩ := hz
  refine wpList_append_own_at _ hgd sl x 32 ho base 5 i0 (.int .u8 0) 1 1 Try.underlying32 hi hz0 hz1 hz2 rfl (by decide) v xs.length (nums .u8 xs) hs hown ⟨G, 0, none⟩ 1 c [.int .u8 y] hx rfl
    (World.news_of_block (cs := #[.int .u8 y]) hG) (by intro u hu; simp at hu; subst hu; rfl) (by simp only [maxLen]; omega) (by omega) hbase ?_
  intro v' w' h1 h2 _ _
  rw [show nums .u8 xs ++ [.int .u8 y] = nums .u8 (xs ++ [y]) by simp [nums]] at h1
  have hl : xs.length + 1 = (xs ++ [y]).length := by simp
  rw [hl] at h1
  obtain ⟨A', c', rfl⟩ := own_slice h1
  exact h A' c' w' h1 h2
end

theorem ext_ext (s : ByteArray) (a b c d : Nat) (hab : a ≤ b) (_hc : c ≤ d) (hd : d ≤ b - a) (_hb : b ≤ s.size) : (s.extract a b).extract c d = s.extract (a + c) (a + d) := by
  apply bytes_inj
  rw [bytes_extract, bytes_extract, bytes_extract, List.take_drop, List.drop_drop, List.take_take]
  congr 2
  omega
end Go.Proofs.Ytpceignbgnekmaa.Sn
