/- snap's unpacker: a literal, by a contract. -/
import Derived.Test.YtpceignbgnekmaaSnA
namespace Go.Proofs.Ytpceignbgnekmaa.Sn
open Go.RowKit Go.Proofs.YtpceignbgnekmaaW.PrintWords Go.Proofs.Ytpceignbgnekmaa.By Go.Proofs.Ytpceignbgnekmaa.Md Go.Proofs.Ytpceignbgnekmaa.Cur

theorem info5 : (Try.prog.info? 5).map (fun i => (i.zero, i.size, i.bytes)) = some (some (.int .u8 0), 1, 1) := by kernel_rfl
theorem strCells_bytes (s : ByteArray) : Lib.strCells s = nums .u8 (bytesOf s) := by
  unfold Lib.strCells nums bytesOf
  rw [List.map_map]
  rfl

section
variable {ops : Array Oper} {o : Oper} {a : Act} {K : Act → World → Prop} {Q : Exit → Act → World → Prop} {E : Prop}
/-- append(v, s...), s a string, as a step of a region that draws -/
theorem step_append_str {w : World} (hgd : o.guard = none) (sl x : Operand) (ho : o.op = .call { callee := .builtin .append, args := #[sl, x], argTypes := #[32, 9] })
    (base : Nat) (v : Value) (xs : List Int) (hs : a.eval sl = v) (hown : w.ownsRow base 5 1 v xs.length (nums .u8 xs)) (s : ByteArray) (hx : a.eval x = .string s)
    (hbytes : xs.length + s.size ≤ 140737488355328) (hbase : base ≤ w.heap.size)
    (h : ∀ A' c' w', w'.ownsRow base 5 1 (.slice A' (xs ++ bytesOf s).length c') (xs ++ bytesOf s).length (nums .u8 (xs ++ bytesOf s)) → w.grownBy w' v.ownBlock → K (a.put o.dst (.slice A' (xs ++ bytesOf s).length c')) w') :
    if Region.wanted o (yielded ops a.tmps) = true then Oper.wp Try.prog o a w K Q else E := by
  have hw : Region.wanted o (yielded ops a.tmps) = true := by simp [Region.wanted, hgd]
  rw [if_pos hw]
  obtain ⟨i0, hi, hz⟩ := Option.map_eq_some_iff.1 info5
  simp only [Prod.mk.injEq] at hz
  obtain ⟨hz0, hz1, hz2⟩ := hz
  obtain ⟨v', w', hr, h2, h3, _⟩ := Lib.run_append_own_string (P := Try.prog) w base 32 9 o.type 5 i0 Try.underlying32 Try.underlying9 hi hz0 hz1 hz2 v xs.length (nums .u8 xs) hown s (by simp only [maxLen]; omega) hbytes hbase
  rw [strCells_bytes, ← nums_append] at h2
  have hl : xs.length + s.size = (xs ++ bytesOf s).length := by rw [List.length_append, bytesOf_length]
  rw [hl] at h2
  obtain ⟨A', c', rfl⟩ := own_slice h2
  unfold Oper.wp execOp
  simp only [ho, resolve, invoke, builtin, Sem.run_bind, Sem.run_pure, Result.andThen_ok, List.map_toArray, List.map_cons, List.map_nil, hs, hx, hr]
  exact h A' c' w' h2 h3

/-- append(v, x), one byte, as a step of a region that draws: the byte lies in block B of its own -/
theorem step_append_byte {w : World} (hgd : o.guard = none) (sl x : Operand) (ho : o.op = .call { callee := .builtin .append, args := #[sl, x], argTypes := #[32, 32] })
    (base : Nat) (v : Value) (xs : List Int) (y : Int) (hs : a.eval sl = v) (hown : w.ownsRow base 5 1 v xs.length (nums .u8 xs)) (B c : Nat) (hx : a.eval x = .slice (some ⟨B, 0, none⟩) 1 c) (hB : w.heap[B]? = some (.cells #[.int .u8 y] 5 (0, 0)))
    (hbytes : xs.length + 1 ≤ 140737488355328) (hbase : base ≤ w.heap.size)
    (h : ∀ A' c' w', w'.ownsRow base 5 1 (.slice A' (xs ++ [y]).length c') (xs ++ [y]).length (nums .u8 (xs ++ [y])) → w.grownBy w' v.ownBlock → K (a.put o.dst (.slice A' (xs ++ [y]).length c')) w') :
    if Region.wanted o (yielded ops a.tmps) = true then Oper.wp Try.prog o a w K Q else E := by
  have hw : Region.wanted o (yielded ops a.tmps) = true := by simp [Region.wanted, hgd]
  rw [if_pos hw]
  obtain ⟨i0, hi, hz⟩ := Option.map_eq_some_iff.1 info5
  simp only [Prod.mk.injEq] at hz
  obtain ⟨hz0, hz1, hz2⟩ := hz
  obtain ⟨v', w', hr, h2, h3, _, _⟩ := run_append_own_at (P := Try.prog) w base 32 o.type 5 i0 (.int .u8 0) 1 1 Try.underlying32 hi hz0 hz1 hz2 rfl (by decide) v xs.length (nums .u8 xs) hown ⟨B, 0, none⟩ 1 c [.int .u8 y] rfl
    (World.news_of_block (cs := #[.int .u8 y]) hB) (by intro u hu; simp at hu; subst hu; rfl) (by simp only [maxLen]; omega) (by omega) hbase
  rw [show nums .u8 xs ++ [.int .u8 y] = nums .u8 (xs ++ [y]) by simp [nums]] at h2
  have hl : xs.length + 1 = (xs ++ [y]).length := by simp
  rw [hl] at h2
  obtain ⟨A', c', rfl⟩ := own_slice h2
  unfold Oper.wp execOp
  simp only [ho, resolve, invoke, builtin, Sem.run_bind, Sem.run_pure, Result.andThen_ok, List.map_toArray, List.map_cons, List.map_nil, hs, hx, hr]
  exact h A' c' w' h2 h3
end

/-- behind an append: what was there is as it was, but for the row; and the new slice stored -/
theorem Un.appended {B0 : Nat} {w w1 : World} {U R : Nat} {A A' : Option Addr} {c c' : Nat} {xs ys : List Int} {size : Int} {s : ByteArray} {a : Nat} {f : Int} (h : Un B0 w U R A c xs size s a f)
    (hg : w.grownBy w1 (Value.slice A xs.length c).ownBlock) (ho : w1.ownsRow B0 5 1 (.slice A' ys.length c') ys.length (nums .u8 ys)) :
    w1.frozen? ⟨U, 1, none⟩ = false ∧ w1.cell? ⟨U, 0, none⟩ = some (Ptr R) ∧ w1.cell? ⟨U, 1, none⟩ = some (.slice A xs.length c) ∧
    Un B0 (w1.setCell ⟨U, 1, none⟩ (.slice A' ys.length c')) U R A' c' ys size s a f := by
  have nU : some U ≠ (Value.slice A xs.length c).ownBlock := by
    intro e
    rcases h.neU with h1 | h1
    · rw [h1] at e; cases e
    · exact h1 e.symm
  have nR : some R ≠ (Value.slice A xs.length c).ownBlock := by
    intro e
    rcases h.neR with h1 | h1
    · rw [h1] at e; cases e
    · exact h1 e.symm
  have bU := blk_grown h.blk hg nU
  have bR : Rd w1 R s a f := blk_grown h.rd hg nR
  refine ⟨blk_frozen bU 1, blk_at_cells bU rfl, blk_at_cells bU rfl, blk_put bU 1 _ rfl, ?_, blk_far bR (fun e => h.ne e.symm) _, h.hU, h.hR⟩
  refine own_mod ho ((Mod.refl (· = U) w1).setCell ⟨U, 1, none⟩ _ (.inl rfl)) ?_
  intro k hk e
  subst e
  rcases ho.2 with ⟨e, _⟩ | ⟨g, cap, cur, e, _, hh, _⟩
  · rw [e] at hk; cases hk
  · rw [e] at hk
    have : g = k := by simpa [Value.ownBlock] using hk
    exact blk_ne hh bU (by decide) this

/-- below B0 nothing turns -/
theorem Un.below_append {B0 : Nat} {w0 w w1 : World} {U R : Nat} {A : Option Addr} {c : Nat} {xs : List Int} {size : Int} {s : ByteArray} {a : Nat} {f : Int} (h : Un B0 w U R A c xs size s a f)
    (hb : Below B0 w0 w) (hB : B0 ≤ w.heap.size) (hg : w.grownBy w1 (Value.slice A xs.length c).ownBlock) (v : Value) : Below B0 w0 (w1.setCell ⟨U, 1, none⟩ v) := by
  have h1 : Below B0 w0 w1 := hb.grown hg hB (fun k hk => (h.own.lt k hk).1)
  exact h1.setCell h.hU v
/-- what is laid, the place, the fault -/
abbrev St := List Int × Nat × Int

/-- the bytes of a literal, n of them -/
def litN (size : Int) (s : ByteArray) (σ : St) (n : Int) : St :=
  let r := tk s σ.2.1 (roomF size σ.1.length σ.2.2 n) n
  (σ.1 ++ bytesOf r.1, r.2.1, r.2.2)
def lit (size : Int) (s : ByteArray) (σ : St) (v : Int) : St :=
  if 60 ≤ v then
    let r := tk s σ.2.1 σ.2.2 (v - 59)
    litN size s (σ.1, r.2.1, r.2.2) (leN (bytesOf r.1) + 1)
  else litN size s σ (v + 1)

theorem tk_at {s : ByteArray} {a : Nat} {f n : Int} (ha : a ≤ s.size) : (tk s a f n).2.1 ≤ s.size := by
  unfold tk
  split
  · exact ha
  · split
    · exact ha
    · split
      · exact ha
      · dsimp only; omega
theorem tk_len {s : ByteArray} {a : Nat} {f n : Int} : (tk s a f n).1.size = 0 ∨ (f = 0 ∧ ((tk s a f n).1.size : Int) = n) := by
  unfold tk
  split
  · exact .inl rfl
  · split
    · exact .inl rfl
    · split
      · exact .inl rfl
      · right
        dsimp only
        rw [ByteArray.size_extract]
        omega

/-- a call that answers nothing, and turned the unpacker -/
def Went (B0 : Nat) (w0 w : World) (U R : Nat) (size : Int) (s : ByteArray) (σ : St) (e : Ending) (w' : World) : Prop :=
  e = .returned (.tuple #[]) ∧ ∃ A c, Un B0 w' U R A c σ.1 size s σ.2.1 σ.2.2 ∧ Below B0 w0 w' ∧ w.heap.size ≤ w'.heap.size

set_option maxRecDepth 100000 in
set_option maxHeartbeats 4000000 in
theorem lit_calls (B0 : Nat) (w0 w : World) (U R : Nat) (A : Option Addr) (c : Nat) (xs : List Int) (size : Int) (s : ByteArray) (a : Nat) (f v : Int) (h : Un B0 w U R A c xs size s a f) (hb : Below B0 w0 w) (hB : B0 ≤ w.heap.size)
    (hs0 : 0 ≤ size) (hs1 : size ≤ 4294967295) (hl : (xs.length : Int) ≤ size) (ha : a ≤ s.size) (hs : s.size ≤ 140737488351232) (hv0 : 0 ≤ v) (hv1 : v ≤ 63) :
    Calls Try.prog 61 #[Ptr U, .int .i64 v] w (Went B0 w0 w U R size s (lit size s (xs, a, f) v)) := by
  have c0 := h.c0
  have H := Aside0.mk h
  have HBl := Aside0.mk hb
  by_cases h60 : 60 ≤ v
  · have h60b : decide (60 ≤ v) = true := decide_eq_true h60
    obtain ⟨q, hq⟩ := Int.eq_ofNat_of_zero_le (show 0 ≤ v - 59 by omega)
    have hq4 : q ≤ 4 := by omega
    have hli := little_calls w R s a f q h.rd ha (by omega) hq4
    have hb1 := leN_bound (bytesOf (tk s a f q).1) (bytes_in _)
    have hrl : (bytesOf (tk s a f q).1).length ≤ 4 := by
      rw [bytesOf_length]
      rcases tk_len (s := s) (a := a) (f := f) (n := (q : Int)) with h1 | ⟨_, h1⟩ <;> omega
    have hp4 : (256 : Int) ^ (bytesOf (tk s a f q).1).length ≤ 4294967296 := by
      have : (256 : Nat) ^ (bytesOf (tk s a f q).1).length ≤ 256 ^ 4 := Nat.pow_le_pow_right (by decide) hrl
      have h2 : ((256 ^ (bytesOf (tk s a f q).1).length : Nat) : Int) ≤ ((256 ^ 4 : Nat) : Int) := by exact_mod_cast this
      simpa using h2
    have hat := tk_at (f := f) (n := (q : Int)) ha
    have e1 : lit size s (xs, a, f) v = litN size s (xs, (tk s a f q).2.1, (tk s a f q).2.2) (leN (bytesOf (tk s a f q).1) + 1) := by rw [lit, if_pos h60, hq]
    rw [e1]
    obtain ⟨r1, a1, f1, ht1⟩ : ∃ r1 a1 f1, tk s a f q = (r1, a1, f1) := ⟨_, _, _, rfl⟩
    rw [ht1] at hli hb1 hp4 hat ⊢
    obtain ⟨N, hN⟩ : ∃ N, leN (bytesOf r1) = N := ⟨_, rfl⟩
    dsimp only at hli hb1 hp4 hat ⊢
    rw [hN] at hli hb1 ⊢
    have hro : ∀ W, Un B0 W U R A c xs size s a1 f1 → Calls Try.prog 66 #[Ptr U, .int .i64 (N + 1)] W fun e w' => e = .returned (.tuple #[]) ∧ Rd w' R s a1 (roomF size xs.length f1 (N + 1)) ∧ Mod (· = R) W w' :=
      fun W hW => room_calls B0 W U R A c xs size s a1 f1 (N + 1) hW hs0 (by omega) (by omega)
    obtain ⟨f2, hf2⟩ : ∃ f2, roomF size xs.length f1 (N + 1) = f2 := ⟨_, rfl⟩
    rw [hf2] at hro
    obtain ⟨r, a3, f3, htk⟩ : ∃ r a3 f3, tk s a1 f2 (N + 1) = (r, a3, f3) := ⟨_, _, _, rfl⟩
    have e2 : litN size s (xs, a1, f1) (N + 1) = (xs ++ bytesOf r, a3, f3) := by simp only [litN, hf2, htk]
    rw [e2]
    have hrs : xs.length + r.size ≤ 140737488355328 := by
      have h1 := tk_len (s := s) (a := a1) (f := f2) (n := N + 1)
      rw [htk] at h1
      rcases h1 with h1 | ⟨_, h1⟩ <;> dsimp only at h1 <;> omega
    have hN0 : 0 ≤ N := hb1.1
    have hN1 : N < 4294967296 := by omega
    have HROA := Aside0.mk hro
    have HLI := Aside0.mk hli
    have HTK := Aside0.mk htk
    have hv59 : v - 60 + 1 = (q : Int) := by omega
    have HV := Aside0.mk hv59
    clear h hb e1 e2 hro hf2 htk hq hli hb1 hrl hp4 ht1 hN hv59
    go_enter Try.func61, Try.ntmps61
    go_wp2_with fail
    rw [HV.out]
    refine HLI.out.mono ?_
    rintro e w9 ⟨rfl, hr9, hm9⟩
    have H9 := Aside0.mk (H.out.reader hm9 hr9)
    have HB9 := Aside0.mk (hm9.below HBl.out hB (by rintro i rfl; exact H.out.hR))
    have hB9 : B0 ≤ w9.heap.size := Nat.le_trans hB hm9.size
    have hz9 : w.heap.size ≤ w9.heap.size := hm9.size
    have HRO := Aside0.mk (HROA.out w9 H9.out)
    clear hr9 hm9 c0 HROA HLI
    have c0 := H9.out.c0
    go_wp2_with fail
    refine HRO.out.mono ?_
    rintro e w1 ⟨rfl, hr1, hm1⟩
    have H1 := Aside0.mk (H9.out.reader hm1 hr1)
    have HB1 := Aside0.mk (hm1.below HB9.out hB9 (by rintro i rfl; exact H9.out.hR))
    have hB1 : B0 ≤ w1.heap.size := Nat.le_trans hB9 hm1.size
    have hz1 : w.heap.size ≤ w1.heap.size := Nat.le_trans hz9 hm1.size
    clear hr1 hm1 HRO c0
    have hd1 : ∀ W, Un B0 W U R A c xs size s a1 f2 → Calls Try.prog 23 #[Ptr R, .int .i64 (N + 1)] W fun e w' => Cur.Told W R s (r, a3, f3) e w' := by
      intro W hW
      have := take_calls W R s a1 f2 (N + 1) hW.rd hat (by omega)
      rw [HTK.out] at this
      exact this
    have HT := Aside0.mk hd1
    clear hd1 HTK
    have c0 := H1.out.c0
    have c1 := H1.out.c1
    go_wp2_with fail
    go_region_law (first
      | (refine step_append_str rfl (.tmp 25) (.tmp 31) rfl B0 (.slice A xs.length c) xs (by simp [Act.eval]) H4.out.own r (by simp [Act.eval]) hrs hB4 ?_; intro A' c' w5 ho hg; have HH := Aside0.mk (H4.out.appended hg ho); have HBB := Aside0.mk (fun v => H4.out.below_append HB4.out hB4 hg v); have hz5 : w1.heap.size ≤ w5.heap.size := Nat.le_trans hz4 hg.size; have hx1 := HH.out.1; have hx2 := HH.out.2.1; have hx3 := HH.out.2.2.1; clear ho hg)
      | (go_simp; go_at_call 23; refine (HT.out _ H1.out.drew).mono ?_; rintro e w4 ⟨he, hr, hm⟩; obtain rfl : e = .returned (.string r) := he; have H4 := Aside0.mk (H1.out.drew.reader hm hr); have HB4 := Aside0.mk (hm.below HB1.out.drew hB1 (by rintro i rfl; exact H1.out.hR)); have hB4 : B0 ≤ w4.heap.size := Nat.le_trans hB1 hm.size; have hz4 : w1.heap.size ≤ w4.heap.size := hm.size; have c14 := H4.out.c1; clear hr hm))
    all_goals
      go_end0
      have hu := HH.out.2.2.2
      rw [List.length_append] at hu
      exact ⟨rfl, A', c', hu, HBB.out _, by simp only [World.size_setCell]; omega⟩
  · have h60b : decide (60 ≤ v) = false := decide_eq_false h60
    have e1 : lit size s (xs, a, f) v = litN size s (xs, a, f) (v + 1) := by rw [lit, if_neg h60]
    rw [e1]
    have hro := room_calls B0 w U R A c xs size s a f (v + 1) h hs0 (by omega) (by omega)
    obtain ⟨f2, hf2⟩ : ∃ f2, roomF size xs.length f (v + 1) = f2 := ⟨_, rfl⟩
    rw [hf2] at hro
    obtain ⟨r, a3, f3, htk⟩ : ∃ r a3 f3, tk s a f2 (v + 1) = (r, a3, f3) := ⟨_, _, _, rfl⟩
    have e2 : litN size s (xs, a, f) (v + 1) = (xs ++ bytesOf r, a3, f3) := by simp only [litN, hf2, htk]
    rw [e2]
    have hrs : xs.length + r.size ≤ 140737488355328 := by
      have h1 := tk_len (s := s) (a := a) (f := f2) (n := v + 1)
      rw [htk] at h1
      rcases h1 with h1 | ⟨_, h1⟩ <;> dsimp only at h1 <;> omega
    have HRO := Aside0.mk hro
    have HTK := Aside0.mk htk
    clear h hb e1 e2 hro hf2 htk
    go_enter Try.func61, Try.ntmps61
    go_wp2_with fail
    refine HRO.out.mono ?_
    rintro e w1 ⟨rfl, hr1, hm1⟩
    have H1 := Aside0.mk (H.out.reader hm1 hr1)
    have HB1 := Aside0.mk (hm1.below HBl.out hB (by rintro i rfl; exact H.out.hR))
    have hB1 : B0 ≤ w1.heap.size := Nat.le_trans hB hm1.size
    have hz1 : w.heap.size ≤ w1.heap.size := Nat.le_trans (Nat.le_refl _) hm1.size
    clear hr1 hm1 HRO c0
    have hd1 : ∀ W, Un B0 W U R A c xs size s a f2 → Calls Try.prog 23 #[Ptr R, .int .i64 (v + 1)] W fun e w' => Cur.Told W R s (r, a3, f3) e w' := by
      intro W hW
      have := take_calls W R s a f2 (v + 1) hW.rd ha (by omega)
      rw [HTK.out] at this
      exact this
    have HT := Aside0.mk hd1
    clear hd1 HTK
    have c0 := H1.out.c0
    have c1 := H1.out.c1
    go_wp2_with fail
    go_region_law (first
      | (refine step_append_str rfl (.tmp 25) (.tmp 31) rfl B0 (.slice A xs.length c) xs (by simp [Act.eval]) H4.out.own r (by simp [Act.eval]) hrs hB4 ?_; intro A' c' w5 ho hg; have HH := Aside0.mk (H4.out.appended hg ho); have HBB := Aside0.mk (fun v => H4.out.below_append HB4.out hB4 hg v); have hz5 : w1.heap.size ≤ w5.heap.size := Nat.le_trans hz4 hg.size; have hx1 := HH.out.1; have hx2 := HH.out.2.1; have hx3 := HH.out.2.2.1; clear ho hg)
      | (go_simp; go_at_call 23; refine (HT.out _ H1.out.drew).mono ?_; rintro e w4 ⟨he, hr, hm⟩; obtain rfl : e = .returned (.string r) := he; have H4 := Aside0.mk (H1.out.drew.reader hm hr); have HB4 := Aside0.mk (hm.below HB1.out.drew hB1 (by rintro i rfl; exact H1.out.hR)); have hB4 : B0 ≤ w4.heap.size := Nat.le_trans hB1 hm.size; have hz4 : w1.heap.size ≤ w4.heap.size := hm.size; have c14 := H4.out.c1; clear hr hm))
    all_goals
      go_end0
      have hu := HH.out.2.2.2
      rw [List.length_append] at hu
      exact ⟨rfl, A', c', hu, HBB.out _, by simp only [World.size_setCell]; omega⟩
end Go.Proofs.Ytpceignbgnekmaa.Sn
