/- SqA, SqB, SqC, SqD, SqE, SqF made one text. -/
import Derived.Test.YtpceignbgnekmaaSnI
import Derived.Maps.OwnSet
import Derived.Maps.Views
import Derived.DeepKeys4
import Derived.WideKeyPair
import Derived.Lib.LazyBuf
import Derived.Maps.OwnOps
import Derived.Lib.AppendStr
import Derived.Laws.CopyRow
import Derived.Lib.EndianBits
/- squeeze: the four bytes of a place; the places. -/
namespace Go.Proofs.Ytpceignbgnekmaa.Sq
open Go.RowKit Go.Proofs.YtpceignbgnekmaaW.PrintWords Go.Proofs.Ytpceignbgnekmaa.By Go.Proofs.Ytpceignbgnekmaa.Md Go.Proofs.Ytpceignbgnekmaa.Cur Go.Maps Go.WideMaps

theorem laidOut : laidOutB Try.prog = true := by kernel_rfl
theorem row77 : (77 : TypeId) < Try.prog.types.size := of_decide_eq_true (by kernel_rfl)
theorem wide77 : (match Try.prog.underlying 77 with | some (.array _ _) | some (.struct _) => true | _ => false) = true := by rw [Try.underlying77]
theorem law77 : Keyed Try.prog 77 := Keyed.of_law (deep_law_laid laidOut (m := 2) (by omega) row77 (by kernel_rfl) wide77)
theorem arr77 : ArrKey Try.prog 77 5 4 := ⟨Try.underlying77, by kernel_rfl, by kernel_rfl, by kernel_rfl⟩
theorem types77 : ∃ m, Try.prog.types.size = m + 1 := ⟨Try.prog.types.size - 1, by kernel_rfl⟩
theorem zero3 (w : World) : (zeroValue 3).run Try.prog w = .ok (.int .i64 0) w := by kernel_rfl

theorem keyOf_four {P : Program} {k e : TypeId} {q : IntKind} (A : ArrKey P k e 4) (he : P.underlying e = some (.int q)) (hsz : ∃ m, P.types.size = m + 1) {a b c d : Int} (wa : (Lit.int q a).wf = true) (wb : (Lit.int q b).wf = true) (wc : (Lit.int q c).wf = true) (wd : (Lit.int q d).wf = true) :
    keyOf P k (.agg #[.int q a, .int q b, .int q c, .int q d]) = some (.string (keyBytes [.int q a, .int q b, .int q c, .int q d])) := by
  have hkt := A.keyType hsz
  obtain ⟨m, hm⟩ := hsz
  unfold keyOf
  simp only [A.hu]
  rw [if_pos (by simp [hkt, Value.formed, A.hu, A.size]), hm]
  unfold Program.keyLits
  simp only [A.hu, Value.cells]
  rw [if_pos (by rw [A.size]; rfl), show List.range 4 = [0, 1, 2, 3] from rfl, List.mapM_cons, List.mapM_cons, List.mapM_cons, List.mapM_cons, List.mapM_nil]
  simp [A.one, Program.keyLits, he, wa, wb, wc, wd]

/-- the value of four bytes, as a key -/
def kv (s : ByteArray) (i : Nat) : Value := .agg #[.int .u8 (bt s i), .int .u8 (bt s (i + 1 : Nat)), .int .u8 (bt s (i + 2 : Nat)), .int .u8 (bt s (i + 3 : Nat))]
def kl (s : ByteArray) (i : Nat) : Lit := .string (keyBytes [.int .u8 (bt s i), .int .u8 (bt s (i + 1 : Nat)), .int .u8 (bt s (i + 2 : Nat)), .int .u8 (bt s (i + 3 : Nat))])
theorem u8wf (s : ByteArray) (i : Int) : (Lit.int .u8 (bt s i)).wf = true := by
  have := bt_range s i
  simp [Lit.wf, IntKind.min, IntKind.max, IntKind.signed, IntKind.bits]
  omega
theorem key_kv (s : ByteArray) (i : Nat) : keyOf Try.prog 77 (kv s i) = some (kl s i) := keyOf_four arr77 Try.underlying5 types77 (u8wf _ _) (u8wf _ _) (u8wf _ _) (u8wf _ _)
theorem key_zero : keyOf Try.prog 77 (.agg #[.int .u8 0, .int .u8 0, .int .u8 0, .int .u8 0]) = some (.string (keyBytes [.int .u8 0, .int .u8 0, .int .u8 0, .int .u8 0])) := keyOf_four arr77 Try.underlying5 types77 (by decide) (by decide) (by decide) (by decide)
theorem kl_eq {s : ByteArray} {i j : Nat} : kl s i = kl s j ↔ (bt s i = bt s j ∧ bt s (i + 1 : Nat) = bt s (j + 1 : Nat) ∧ bt s (i + 2 : Nat) = bt s (j + 2 : Nat) ∧ bt s (i + 3 : Nat) = bt s (j + 3 : Nat)) := by
  constructor
  · intro h
    have h1 := key_kv s i
    rw [h] at h1
    have h2 := law77.inj h1 (key_kv s j)
    simp [kv] at h2
    exact ⟨h2.1, by simpa using h2.2.1, by simpa using h2.2.2.1, by simpa using h2.2.2.2⟩
  · rintro ⟨h1, h2, h3, h4⟩
    unfold kl
    rw [h1, h2, h3, h4]

theorem take4 {α : Type} : ∀ (l : List α) (h : 4 ≤ l.length), l.take 4 = [l[0], l[1], l[2], l[3]]
  | _ :: _ :: _ :: _ :: _, _ => rfl
/-- copy(k[:], t): four bytes, t has as many -/
theorem run_copy4 (w : World) (ty : TypeId) (g : Nat) (t : ByteArray) (h4 : 4 ≤ t.size) (z0 z1 z2 z3 : Value) (hg : w.heap[g]? = some (.cells #[z0, z1, z2, z3] 77 (0, 0))) :
    (Builtin.copy_ #[32, 9] ty #[.slice (some ⟨g, 0, none⟩) 4 4, .string t]).run Try.prog w =
      .ok (goInt 4) ((((w.setCell ⟨g, 0, none⟩ (.int .u8 (bt t 0))).setCell ⟨g, 1, none⟩ (.int .u8 (bt t (1 : Nat)))).setCell ⟨g, 2, none⟩ (.int .u8 (bt t (2 : Nat)))).setCell ⟨g, 3, none⟩ (.int .u8 (bt t (3 : Nat)))) := by
  have hz : ∀ w, (Go.sizeOf 5).run Try.prog w = .ok 1 w := fun w => by kernel_rfl
  have hl : 4 ≤ t.data.toList.length := by rw [Array.length_toList]; exact h4
  have htk : List.take 4 (t.data.toList.map fun x => Value.int .u8 (x.toNat : Int)) = [.int .u8 (bt t 0), .int .u8 (bt t (1 : Nat)), .int .u8 (bt t (2 : Nat)), .int .u8 (bt t (3 : Nat))] := by
    have h0 : (0 : Nat) < t.size := by omega
    have h1 : (1 : Nat) < t.size := by omega
    have h2 : (2 : Nat) < t.size := by omega
    have h3 : (3 : Nat) < t.size := by omega
    have e : ∀ j (h : j < t.size), Value.int .u8 (bt t (j : Nat)) = Value.int .u8 (((t.data.toList[j]'(by rw [Array.length_toList]; exact h)).toNat : Int)) := by
      intro j h
      simp [bt, h]
      rfl
    rw [show (0 : Int) = ((0 : Nat) : Int) from rfl, e 0 h0, e 1 h1, e 2 h2, e 3 h3, ← List.map_take, take4 _ hl]
    rfl
  have hmin : Nat.min t.size 4 = 4 := Nat.min_eq_right h4
  have hc : ∀ j, j < 4 → (w.cell? ⟨g, 0 + j, none⟩).isSome = true := by
    intro j hj
    rw [Nat.zero_add, blk_cell hg j]
    obtain rfl | rfl | rfl | rfl : j = 0 ∨ j = 1 ∨ j = 2 ∨ j = 3 := by omega
    all_goals rfl
  have hf : ∀ j, j < 4 → w.frozen? ⟨g, 0 + j, none⟩ = false := fun j _ => blk_frozen hg _
  have hst := run_storeCells_cells (P := Try.prog) g 0 [.int .u8 (bt t 0), .int .u8 (bt t (1 : Nat)), .int .u8 (bt t (2 : Nat)), .int .u8 (bt t (3 : Nat))] 0 w (by simpa using hc) (by simpa using hf) (by
    intro v hv
    simp at hv
    rcases hv with rfl | rfl | rfl | rfl <;> rfl)
  simp [Builtin.copy_, run_underlying Try.underlying32, Builtin.lenOf, Builtin.firstCells, hz, hmin]
  rw [htk, hst]
  rfl
theorem step_copy4 {ops : Array Oper} {o : Oper} {a : Act} {w : World} {K : Act → World → Prop} {Q : Exit → Act → World → Prop} {E : Prop}
    (hg : o.guard = none) (d x : Operand) (hop : o.op = Op.call { callee := Callee.builtin Builtin.copy, args := #[d, x], argTypes := #[32, 9] })
    (g : Nat) (hd : a.eval d = .slice (some ⟨g, 0, none⟩) 4 4) (t : ByteArray) (hx : a.eval x = .string t) (h4 : 4 ≤ t.size) (z0 z1 z2 z3 : Value) (hgb : w.heap[g]? = some (.cells #[z0, z1, z2, z3] 77 (0, 0)))
    (hK : K (a.put o.dst (goInt 4)) ((((w.setCell ⟨g, 0, none⟩ (.int .u8 (bt t 0))).setCell ⟨g, 1, none⟩ (.int .u8 (bt t (1 : Nat)))).setCell ⟨g, 2, none⟩ (.int .u8 (bt t (2 : Nat)))).setCell ⟨g, 3, none⟩ (.int .u8 (bt t (3 : Nat))))) :
    if Region.wanted o (yielded ops a.tmps) = true then Oper.wp Try.prog o a w K Q else E := by
  have hw : Region.wanted o (yielded ops a.tmps) = true := by simp [Region.wanted, hg]
  rw [if_pos hw]
  have hrun := run_copy4 w o.type g t h4 z0 z1 z2 z3 hgb
  unfold Oper.wp execOp
  simp only [hop, resolve, invoke, builtin, Sem.run_bind, Sem.run_pure, Result.andThen_ok, List.map_toArray, List.map_cons, List.map_nil, hd, hx, hrun]
  exact hK
theorem results_at (tmps : Array Value) (w : World) (g : Nat) (cs : Array Value) (v : Value) (hp : tmps.getD 4 undef = .pointer (some ⟨g, 0, none⟩)) {fr : Nat × Nat} (hg : w.heap[g]? = some (.cells cs 77 fr)) (hv : tmps.getD 5 undef = v) (hn : cs.size = 4 := by rfl) :
    (results Try.f53 tmps).run Try.prog w = .ok (.tuple #[.agg cs, v]) w := by
  rw [results_cell_tmp (by rfl : Try.f53.results = #[.cell 4 77, .tmp 5]), hp, hv]
  have h1 : (Try.prog.info? 77).map (·.size) = some 4 := by kernel_rfl
  simp [asAddr, run_loadVar_row w g 77 77 cs fr _ hg Try.underlying77 rfl (by rw [hn]; exact h1), Result.andThen]

set_option maxRecDepth 100000 in
set_option maxHeartbeats 1000000 in
theorem at_calls (s : ByteArray) (i : Nat) (hi : i ≤ 65536) (w : World) :
    Calls Try.prog 53 #[.string s, .int .i64 i] w fun e w' => e = .returned (.tuple #[if i + 4 ≤ s.size then kv s i else .agg #[.int .u8 0, .int .u8 0, .int .u8 0, .int .u8 0], .bool (decide (i + 4 ≤ s.size))]) ∧ Below w.heap.size w w' := by
  have HB := Aside0.mk (Below.refl w.heap.size w)
  have hi2 : i ≤ 65536 := hi
  by_cases h : i + 4 ≤ s.size
  · have hb : decide ((s.size : Int) < (i : Int) + 4) = false := decide_eq_false (by omega)
    rw [if_pos h, decide_eq_true h]
    obtain ⟨t, ht⟩ : ∃ t, s.extract i s.size = t := ⟨_, rfl⟩
    have htz : t.size = s.size - i := by rw [← ht, ByteArray.size_extract]; omega
    have h4 : 4 ≤ t.size := by omega
    have hkv : kv s i = .agg #[.int .u8 (bt t 0), .int .u8 (bt t (1 : Nat)), .int .u8 (bt t (2 : Nat)), .int .u8 (bt t (3 : Nat))] := by
      have e : ∀ j : Nat, i + j < s.size → bt s (i + j : Nat) = bt t (j : Nat) := by
        intro j hj
        have h1 : i + j < (bytesOf s).length := by rw [bytesOf_length]; exact hj
        have h2 : j < (bytesOf t).length := by rw [bytesOf_length]; omega
        rw [bt_get s _ h1, bt_get t _ h2]
        have e2 := bytes_extract s i s.size
        rw [List.take_of_length_le (by rw [bytesOf_length]; omega), ht] at e2
        simp only [e2, List.getElem_drop]
      have e0 := e 0 (by omega)
      rw [Nat.add_zero] at e0
      unfold kv
      rw [e0, e 1 (by omega), e 2 (by omega), e 3 (by omega)]
      rfl
    rw [hkv]
    have hcp := run_copy4 ((w.alloc (.cells #[.int .u8 0, .int .u8 0, .int .u8 0, .int .u8 0] 77)).alloc (.cells #[.int .u8 0, .int .u8 0, .int .u8 0, .int .u8 0] 77)).drew 3 (w.heap.size + 1) t h4 (.int .u8 0) (.int .u8 0) (.int .u8 0) (.int .u8 0)
      (by have := blk_drew (blk_new (w.alloc (.cells #[.int .u8 0, .int .u8 0, .int .u8 0, .int .u8 0] 77)) (.cells #[.int .u8 0, .int .u8 0, .int .u8 0, .int .u8 0] 77)); simpa using this)
    have hle : i ≤ s.size := by omega
    clear hkv htz h4
    go_enter Try.func53, Try.ntmps53
    go_wp2_with fail
    go_region
    go_wp2_with fail
    refine bodyPost_ret (results_at _ _ w.heap.size _ _ (by rfl) (blk_drew (blk_alloc (blk_new _ _) _)) (by rfl)) rfl ?_
    exact ⟨rfl, ((HB.out.alloc (Nat.le_refl _) _).alloc (by simp) _).drew⟩
  · have hb : decide ((s.size : Int) < (i : Int) + 4) = true := decide_eq_true (by omega)
    rw [if_neg h, decide_eq_false h]
    go_enter Try.func53, Try.ntmps53
    go_wp2_with fail
    refine bodyPost_ret (results_at _ _ w.heap.size _ _ (by rfl) (blk_alloc (blk_new _ _) _) (by rfl)) rfl ?_
    exact ⟨rfl, (HB.out.alloc (Nat.le_refl _) _).alloc (by simp) _⟩

/-- what the places hold once those ahead of i are noted -/
def Pl (s : ByteArray) : Nat → DataW Unit
  | 0 => .map []
  | i + 1 => if i + 4 ≤ s.size then (Pl s i).put (kl s i) (.lit (.int .i64 i)) else Pl s i

/-- are the four bytes of two places alike? -/
def four (s : ByteArray) (j i : Nat) : Bool := bt s j == bt s i && bt s (j + 1 : Nat) == bt s (i + 1 : Nat) && bt s (j + 2 : Nat) == bt s (i + 2 : Nat) && bt s (j + 3 : Nat) == bt s (i + 3 : Nat)
theorem four_kl {s : ByteArray} {j i : Nat} : four s j i = true ↔ kl s j = kl s i := by
  rw [kl_eq]
  simp [four, and_assoc]
/-- the nearest place below j whose four bytes are i's -/
def last4 (s : ByteArray) (i : Nat) : Nat → Option Nat
  | 0 => none
  | j + 1 => if j + 4 ≤ s.size ∧ four s j i = true then some j else last4 s i j

theorem isKey (s : ByteArray) (i : Nat) : WideAt.IsKeyLit (kl s i) := trivial
theorem Pl_map (s : ByteArray) : ∀ i, IsMap (Pl s i)
  | 0 => ⟨_, rfl⟩
  | i + 1 => by
    unfold Pl
    split
    · exact (Pl_map s i).put _ _
    · exact Pl_map s i
theorem Pl_last (s : ByteArray) (i : Nat) : ∀ m, (last4 s i m = none ∧ Maps.has (Pl s m) (kl s i) = false) ∨ (∃ j, last4 s i m = some j ∧ j < m ∧ Maps.has (Pl s m) (kl s i) = true ∧ (Pl s m).atKey (kl s i) (.lit (.int .i64 0)) = .lit (.int .i64 j))
  | 0 => .inl ⟨rfl, rfl⟩
  | m + 1 => by
    unfold Pl last4
    by_cases h : m + 4 ≤ s.size
    · rw [if_pos h]
      by_cases hf : four s m i = true
      · rw [if_pos ⟨h, hf⟩]
        have e := four_kl.1 hf
        refine .inr ⟨m, rfl, by omega, ?_, ?_⟩
        · rw [← e]; exact has_put_same (Pl_map s m) (isKey s m) _
        · rw [← e]; exact atKey_put_same (Pl_map s m) (isKey s m) _ _
      · rw [if_neg (fun g => hf g.2)]
        have hne : kl s i ≠ kl s m := fun e => hf (four_kl.2 e.symm)
        rw [has_put_other hne, atKey_put_other hne]
        rcases Pl_last s i m with h1 | ⟨j, h1, h2, h3⟩
        · exact .inl h1
        · exact .inr ⟨j, h1, by omega, h3⟩
    · rw [if_neg h, if_neg (fun g => h g.1)]
      rcases Pl_last s i m with h1 | ⟨j, h1, h2, h3⟩
      · exact .inl h1
      · exact .inr ⟨j, h1, by omega, h3⟩
end Go.Proofs.Ytpceignbgnekmaa.Sq

/- squeeze: a place is found, and noted. -/
namespace Go.Proofs.Ytpceignbgnekmaa.Sq
open Go.RowKit Go.Proofs.YtpceignbgnekmaaW.PrintWords Go.Proofs.Ytpceignbgnekmaa.By Go.Proofs.Ytpceignbgnekmaa.Md Go.Proofs.Ytpceignbgnekmaa.Cur Go.Maps Go.WideMaps

abbrev Mp (w : World) (B n : Nat) (D : DataW Unit) : Prop := w.ownsMap Try.prog 77 (plainElem Try.prog 3) B n D
theorem Mp.below {w w' : World} {B n : Nat} {D : DataW Unit} (h : Mp w B n D) (hb : Below w.heap.size w w') : Mp w' B n D := by
  have hlt := World.ownsMap.lt h
  obtain ⟨es, cl, h1, h2⟩ := h
  exact ⟨es, cl, (hb.block B hlt).trans h1, h2⟩

def findF (s : ByteArray) (i : Nat) : Int := if i + 4 ≤ s.size then (match last4 s i i with | some j => (j : Int) | none => -1) else -1

theorem at_calls' (s : ByteArray) (i : Nat) (hi : i ≤ 65536) : ∃ b0 b1 b2 b3 : Int, ∃ l : Lit, keyOf Try.prog 77 (.agg #[.int .u8 b0, .int .u8 b1, .int .u8 b2, .int .u8 b3]) = some l ∧ (i + 4 ≤ s.size → l = kl s i) ∧
    ∀ w, Calls Try.prog 53 #[.string s, .int .i64 i] w fun e w' => e = .returned (.tuple #[.agg #[.int .u8 b0, .int .u8 b1, .int .u8 b2, .int .u8 b3], .bool (decide (i + 4 ≤ s.size))]) ∧ Below w.heap.size w w' := by
  have h := fun w => at_calls s i hi w
  by_cases hs : i + 4 ≤ s.size
  · refine ⟨bt s i, bt s (i + 1 : Nat), bt s (i + 2 : Nat), bt s (i + 3 : Nat), kl s i, key_kv s i, fun _ => rfl, fun w => ?_⟩
    have := h w
    rw [if_pos hs] at this
    exact this
  · refine ⟨0, 0, 0, 0, _, key_zero, fun g => absurd g hs, fun w => ?_⟩
    have := h w
    rw [if_neg hs] at this
    exact this

set_option maxRecDepth 100000 in
set_option maxHeartbeats 1000000 in
theorem find_calls (s : ByteArray) (i B n : Nat) (hs : s.size ≤ 65536) (hi : i ≤ s.size) (w : World) (h : Mp w B n (Pl s i)) :
    Calls Try.prog 42 #[.map (some B), .string s, .int .i64 i] w fun e w' => e = .returned (.int .i64 (findF s i)) ∧ Below w.heap.size w w' := by
  obtain ⟨b0, b1, b2, b3, l, hk, hl, hat⟩ := at_calls' s i (by omega)
  have HB := Aside0.mk (Below.refl w.heap.size w)
  have HAT := Aside0.mk (hat w)
  have HK := Aside0.mk hk
  have HL := Aside0.mk hl
  have HM := Aside0.mk h
  clear hat hk hl h
  by_cases h4 : i + 4 ≤ s.size
  · rw [decide_eq_true h4] at HAT
    obtain rfl := HL.out h4
    rcases Pl_last s i i with ⟨h1, h2⟩ | ⟨j, h1, h2, h3, h5⟩
    · have e : findF s i = -1 := by rw [findF, if_pos h4, h1]
      rw [e]
      go_enter Try.func42, Try.ntmps42
      go_wp2_with fail
      refine HAT.out.mono ?_
      rintro e w1 ⟨rfl, hb⟩
      have HM1 := Aside0.mk ((HM.out.below hb).alloc (.cells #[.int .u8 b0, .int .u8 b1, .int .u8 b2, .int .u8 b3] 77))
      have HB1 := Aside0.mk (below_step HB.out hb)
      clear hb
      go_wp2_with (at_lookup; refine wpList_lookup_own_ok_int _ rfl _ _ 64 rfl 77 3 .i64 law77 Try.underlying64 Try.underlying3 (zero3 _) B n (Pl s i) rfl HM1.out _ _ rfl HK.out ?_; intro c hat hwc; rw [h2]; clear hat)
      go_ret
      exact ⟨rfl, HB1.out.alloc HB1.out.size _⟩
    · have e : findF s i = (j : Int) := by rw [findF, if_pos h4, h1]
      have hfar : decide (65535 < (i : Int) - (j : Int)) = false := decide_eq_false (by omega)
      rw [e]
      go_enter Try.func42, Try.ntmps42
      go_wp2_with fail
      refine HAT.out.mono ?_
      rintro e w1 ⟨rfl, hb⟩
      have HM1 := Aside0.mk ((HM.out.below hb).alloc (.cells #[.int .u8 b0, .int .u8 b1, .int .u8 b2, .int .u8 b3] 77))
      have HB1 := Aside0.mk (below_step HB.out hb)
      clear hb
      go_wp2_with (at_lookup; refine wpList_lookup_own_ok_int _ rfl _ _ 64 rfl 77 3 .i64 law77 Try.underlying64 Try.underlying3 (zero3 _) B n (Pl s i) rfl HM1.out _ _ rfl HK.out ?_; intro c hat hwc; rw [h3]; rw [h5] at hat; obtain rfl : (j : Int) = c := (by simpa using hat); clear hat)
      go_ret
      exact ⟨rfl, HB1.out.alloc HB1.out.size _⟩
  · rw [decide_eq_false h4] at HAT
    have e : findF s i = -1 := by rw [findF, if_neg h4]
    rw [e]
    go_enter Try.func42, Try.ntmps42
    go_wp2_with fail
    refine HAT.out.mono ?_
    rintro e w1 ⟨rfl, hb⟩
    have HM1 := Aside0.mk ((HM.out.below hb).alloc (.cells #[.int .u8 b0, .int .u8 b1, .int .u8 b2, .int .u8 b3] 77))
    have HB1 := Aside0.mk (below_step HB.out hb)
    clear hb
    go_wp2_with (at_lookup; refine wpList_lookup_own_ok_int _ rfl _ _ 64 rfl 77 3 .i64 law77 Try.underlying64 Try.underlying3 (zero3 _) B n (Pl s i) rfl HM1.out _ _ rfl HK.out ?_; intro c hat hwc; clear hat)
    go_ret
    exact ⟨rfl, HB1.out.alloc HB1.out.size _⟩

set_option maxRecDepth 100000 in
set_option maxHeartbeats 1000000 in
theorem note_calls (s : ByteArray) (i B n : Nat) (hs : s.size ≤ 65536) (hi : i ≤ s.size) (hn : n ≤ 65536) (w : World) (h : Mp w B n (Pl s i)) :
    Calls Try.prog 46 #[.map (some B), .string s, .int .i64 i] w fun e w' => e = .returned (.tuple #[]) ∧ Mp w' B (n + 1) (Pl s (i + 1)) ∧ Mod (· = B) w w' := by
  obtain ⟨b0, b1, b2, b3, l, hk, hl, hat⟩ := at_calls' s i (by omega)
  have HAT := Aside0.mk (hat w)
  have HK := Aside0.mk hk
  have HL := Aside0.mk hl
  have HM := Aside0.mk h
  clear hat hk hl h
  by_cases h4 : i + 4 ≤ s.size
  · rw [decide_eq_true h4] at HAT
    obtain rfl := HL.out h4
    have e : Pl s (i + 1) = (Pl s i).put (kl s i) (.lit (.int .i64 i)) := by rw [Pl, if_pos h4]
    rw [e]
    have hwf : (Lit.int .i64 (i : Int)).wf = true := WalkArith.wf_i64 (by omega)
    go_enter Try.func46, Try.ntmps46
    go_wp2_with fail
    refine HAT.out.mono ?_
    rintro e w1 ⟨rfl, hb⟩
    have HM1 := Aside0.mk ((HM.out.below hb).alloc (.cells #[.int .u8 b0, .int .u8 b1, .int .u8 b2, .int .u8 b3] 77))
    have HB1 := Aside0.mk ((Mod.of_below (· = B) hb).alloc (.cells #[.int .u8 b0, .int .u8 b1, .int .u8 b2, .int .u8 b3] 77))
    clear hb
    go_wp2_with (at_mapUpdate; refine wpList_mapUpdate_own _ rfl _ _ _ 64 rfl 77 3 law77 Try.underlying64 _ B n (Pl s i) rfl HM1.out (by unfold maxLen; omega) _ _ (kl s i) rfl rfl HK.out _ [] (plainElem_int Try.underlying3 hwf) ?_; intro w2 hown2 hg2)
    go_end0
    exact ⟨rfl, hown2, HB1.out.same ((Mod.of_grown hg2).mono (fun i _ h => by simpa using h))⟩
  · rw [decide_eq_false h4] at HAT
    have e : Pl s (i + 1) = Pl s i := by rw [Pl, if_neg h4]
    rw [e]
    go_enter Try.func46, Try.ntmps46
    go_wp2_with fail
    refine HAT.out.mono ?_
    rintro e w1 ⟨rfl, hb⟩
    have HM1 := Aside0.mk ((HM.out.below hb).alloc (.cells #[.int .u8 b0, .int .u8 b1, .int .u8 b2, .int .u8 b3] 77))
    have HB1 := Aside0.mk ((Mod.of_below (· = B) hb).alloc (.cells #[.int .u8 b0, .int .u8 b1, .int .u8 b2, .int .u8 b3] 77))
    clear hb
    go_wp2_with fail
    go_end0
    exact ⟨rfl, HM1.out.mono (Nat.le_succ _), HB1.out⟩
end Go.Proofs.Ytpceignbgnekmaa.Sq

/- A row of bytes of one's own, though a conversion marked what lies behind it; and append to it. -/
namespace Go.Proofs.Ytpceignbgnekmaa.Sq
open Go.RowKit Go.Proofs.YtpceignbgnekmaaW.PrintWords Go.Proofs.Ytpceignbgnekmaa.By Go.Proofs.Ytpceignbgnekmaa.Md Go.Proofs.Ytpceignbgnekmaa.Cur Go.Proofs.Ytpceignbgnekmaa.Sn

/-- a store into cells of a row that is marked behind its end alone -/
theorem storeCells_marked (g o : Nat) (fz : Nat × Nat) : ∀ (vs : List Value) (i : Nat) (cur : Array Value) (w : World), w.heap[g]? = some (.cells cur 5 fz) → (fz = (0, 0) ∨ cur.size ≤ fz.1) → o + i + vs.length ≤ cur.size → (∀ v ∈ vs, v.oneCell' = true) →
    (storeCells ⟨g, o, none⟩ vs i).run Try.prog w = .ok () (w.setRow g (cur.toList.take (o + i) ++ vs ++ cur.toList.drop (o + i + vs.length)).toArray)
  | [], i, cur, w, hg, _, _, _ => by
    simp only [storeCells, List.append_nil, List.length_nil, Nat.add_zero, List.take_append_drop, Array.toArray_toList]
    rw [setRow_self w g cur 5 fz hg]
    rfl
  | v :: rest, i, cur, w, hg, hfz, hl, h1 => by
    have hi : o + i < cur.size := by simp at hl; omega
    have hadd : (⟨g, o, none⟩ : Addr).add i = ⟨g, o + i, none⟩ := by unfold Addr.add; split <;> simp_all
    have hcell : w.cell? ⟨g, o + i, none⟩ = some cur[o + i] := by simp [World.cell?, hg, hi]
    have hfro : w.frozen? ⟨g, o + i, none⟩ = false := by
      simp only [World.frozen?, hg]
      rcases hfz with rfl | hfz
      · simp
      · have : ¬ fz.1 ≤ o + i := by omega
        simp [this]
    have hst : (store ((⟨g, o, none⟩ : Addr).add i) v).run Try.prog w = .ok () (w.setRow g (cur.setIfInBounds (o + i) v)) := by
      rw [hadd, run_store Try.prog w _ v _ (h1 v (by simp)), hcell]
      simp [hfro, setCell_eq_setRow w g (o + i) cur 5 fz v hg]
    have ih := storeCells_marked g o fz rest (i + 1) (cur.setIfInBounds (o + i) v) (w.setRow g (cur.setIfInBounds (o + i) v)) (setRow_heap w g cur _ 5 _ hg) (by simpa using hfz) (by simp at hl ⊢; omega) (fun x hx => h1 x (by simp [hx]))
    simp only [storeCells, Sem.run_bind, hst, Result.andThen_ok, ih, setRow_setRow]
    congr 3
    have e := list_seg_step cur.toList (o + i) v rest (by simp at hl ⊢; omega)
    simpa [Array.toList_setIfInBounds, Nat.add_assoc] using e

/-- the row of bytes xs at block g -/
def RX (w : World) (B g cap : Nat) (xs : List Int) : Prop := B ≤ g ∧ xs.length ≤ cap ∧ cap ≤ maxLen ∧ ∃ cur fz, w.heap[g]? = some (.cells cur 5 fz) ∧ cur.size = cap ∧ cur.toList.take xs.length = nums .u8 xs ∧ (fz = (0, 0) ∨ cap ≤ fz.1)
abbrev sl (g len cap : Nat) : Value := .slice (some ⟨g, 0, none⟩) len cap

theorem nums_len (xs : List Int) : (nums .u8 xs).length = xs.length := by simp [nums]
theorem nums_one (xs : List Int) : ∀ u ∈ nums .u8 xs, u.oneCell' = true := by
  intro u hu
  simp only [nums, List.mem_map] at hu
  obtain ⟨b, _, rfl⟩ := hu
  rfl
theorem RX.lt {w : World} {B g cap : Nat} {xs : List Int} (h : RX w B g cap xs) : B ≤ g ∧ g < w.heap.size := by
  obtain ⟨h1, _, _, cur, fz, hg, _⟩ := h
  exact ⟨h1, blk_lt hg⟩
theorem RX.cells {w : World} {B g cap : Nat} {xs : List Int} (h : RX w B g cap xs) : ∀ j u, (nums .u8 xs)[j]? = some u → w.cell? ((⟨g, 0, none⟩ : Addr).add j) = some u := by
  intro j u hu
  obtain ⟨h1, _, _, cur, fz, hg, hc, ht, _⟩ := h
  have hadd : (⟨g, 0, none⟩ : Addr).add j = ⟨g, j, none⟩ := by unfold Addr.add; split <;> simp_all
  rw [hadd, cell_of_row w g j cur 5 fz hg]
  rw [← ht, List.getElem?_take] at hu
  split at hu
  · simpa using hu
  · cases hu
theorem RX.kept {w w' : World} {B g cap : Nat} {xs : List Int} (h : RX w B g cap xs) (hb : w'.heap[g]? = w.heap[g]?) : RX w' B g cap xs := by
  obtain ⟨h1, h2, h3, cur, fz, hg, h4⟩ := h
  exact ⟨h1, h2, h3, cur, fz, hb.trans hg, h4⟩
theorem RX.mod {w w' : World} {B g cap : Nat} {xs : List Int} {S : Nat → Prop} (h : RX w B g cap xs) (hm : Mod S w w') (hs : ¬ S g) : RX w' B g cap xs := h.kept (hm.block g h.lt.2 hs)

theorem RX.store {w : World} {B g cap : Nat} {xs ys : List Int} (h : RX w B g cap xs) (hr : xs.length + ys.length ≤ cap) :
    ∃ w', (storeCells ⟨g, xs.length, none⟩ (nums .u8 ys) 0).run Try.prog w = .ok () w' ∧ RX w' B g cap (xs ++ ys) ∧ Mod (· = g) w w' := by
  obtain ⟨h1, h2, h3, cur, fz, hg, hc, ht, hf⟩ := h
  have hst := storeCells_marked g xs.length fz (nums .u8 ys) 0 cur w hg (by rw [hc]; exact hf) (by rw [nums_len]; omega) (nums_one ys)
  rw [nums_len, Nat.add_zero, ht] at hst
  refine ⟨_, hst, ⟨h1, by rw [List.length_append]; exact hr, h3, _, fz, setRow_heap w g cur _ 5 _ hg, ?_, ?_, hf⟩, ?_⟩
  · simp only [List.size_toArray, List.length_append, List.length_drop, Array.length_toList, nums_len]
    omega
  · rw [List.toList_toArray, ← nums_append, List.take_append_of_le_length (by rw [nums_len]; exact Nat.le_refl _), List.take_of_length_le (by rw [nums_len]; exact Nat.le_refl _)]
  · exact ⟨rfl, rfl, rfl, by simp, fun k _ hk => setRow_other w g k _ (fun e => hk e)⟩

theorem RX.grown {w : World} {B : Nat} {xs ys : List Int} (hbase : B ≤ w.heap.size) (hb : xs.length + ys.length ≤ 140737488355328) (old : Nat) (row : Option Nat) :
    RX (w.drew.alloc (.cells ((nums .u8 xs).toArray ++ (nums .u8 ys).toArray ++ Builtin.zeroCells (Value.int .u8 0).cells (grownCap w (xs.length + ys.length) old 5 - (xs.length + ys.length))) 5)) B w.heap.size (grownCap w (xs.length + ys.length) old 5) (xs ++ ys) ∧
      w.grownBy (w.drew.alloc (.cells ((nums .u8 xs).toArray ++ (nums .u8 ys).toArray ++ Builtin.zeroCells (Value.int .u8 0).cells (grownCap w (xs.length + ys.length) old 5 - (xs.length + ys.length))) 5)) row := by
  have hge := grownCap_ge w (xs.length + ys.length) old 5
  have hcm : grownCap w (xs.length + ys.length) old 5 ≤ maxLen := grownCap_le_maxLen w (xs.length + ys.length) old 5 (by simp only [maxLen]; omega)
  refine ⟨⟨hbase, by rw [List.length_append]; exact hge, hcm, _, (0, 0), heap_alloc_new w.drew _, ?_, ?_, .inl rfl⟩, ⟨rfl, rfl, rfl, by simp, fun k hk _ => heap_alloc_old w.drew _ hk⟩⟩
  · have hz1 : (Value.int IntKind.u8 0).cells.size = 1 := rfl
    simp only [Array.size_append, List.size_toArray, size_zeroCells, hz1, nums_len]
    omega
  · simp only [Array.toList_append, List.append_assoc]
    rw [← List.append_assoc, nums_append, List.length_append, ← nums_len xs, ← nums_len ys, ← List.length_append]
    exact List.take_left

theorem appX_str (w : World) (ty : TypeId) (B g cap : Nat) (xs : List Int) (h : RX w B g cap xs) (s : ByteArray) (hb : xs.length + s.size ≤ 140737488355328) (hbase : B ≤ w.heap.size) :
    ∃ g' cap' w', (Builtin.append_ #[32, 9] ty #[sl g xs.length cap, .string s]).run Try.prog w = .ok (sl g' (xs ++ bytesOf s).length cap') w' ∧ RX w' B g' cap' (xs ++ bytesOf s) ∧ w.grownBy w' (some g) := by
  obtain ⟨i0, hi, hz⟩ := Option.map_eq_some_iff.1 info5
  simp only [Prod.mk.injEq] at hz
  obtain ⟨hz0, hz1, hz2⟩ := hz
  have hl : (xs ++ bytesOf s).length = xs.length + s.size := by rw [List.length_append, bytesOf_length]
  rw [hl]
  by_cases hroom : xs.length + s.size ≤ cap
  · obtain ⟨w', hst, hrx, hm⟩ := h.store (ys := bytesOf s) (by rw [bytesOf_length]; exact hroom)
    have hf := Lib.run_firstCells_string (P := Try.prog) w 1 s
    rw [strCells_bytes] at hf
    have hadd : (⟨g, 0, none⟩ : Addr).add xs.length = ⟨g, xs.length, none⟩ := by unfold Addr.add; split <;> simp_all
    refine ⟨g, cap, w', ?_, hrx, ⟨hm.os, hm.tape, hm.output, hm.size, fun k hk hne => hm.block k hk (fun e => hne (by rw [e]))⟩⟩
    simp [Builtin.append_, run_underlying Try.underlying32, run_underlying Try.underlying9, sizeOf, typeInfo, hi, hz1, Builtin.lenOf, hroom, hf, hadd, hst, Result.andThen]
  · have hr := Lib.run_append_grow_string (P := Try.prog) w 32 9 ty 5 i0 (.int .u8 0) Try.underlying32 Try.underlying9 hi hz0 ⟨g, 0, none⟩ xs.length cap (nums .u8 xs) (by rw [hz1, nums_len]; omega) h.cells s (by omega) (by omega) (by rw [hz2]; exact growslice_fits (by omega) (by omega))
    rw [strCells_bytes] at hr
    have hgr := RX.grown (xs := xs) (ys := bytesOf s) hbase (by rw [bytesOf_length]; exact hb) cap (some g)
    rw [bytesOf_length] at hgr
    exact ⟨_, _, _, hr, hgr.1, hgr.2⟩

theorem appX_lit (w : World) (ty : TypeId) (B g cap : Nat) (xs : List Int) (h : RX w B g cap xs) (G c : Nat) (ys : List Int) (hG : w.heap[G]? = some (.cells (nums .u8 ys).toArray 5 (0, 0))) (hb : xs.length + ys.length ≤ 140737488355328) (hbase : B ≤ w.heap.size) :
    ∃ g' cap' w', (Builtin.append_ #[32, 32] ty #[sl g xs.length cap, sl G ys.length c]).run Try.prog w = .ok (sl g' (xs ++ ys).length cap') w' ∧ RX w' B g' cap' (xs ++ ys) ∧ w.grownBy w' (some g) := by
  obtain ⟨i0, hi, hz⟩ := Option.map_eq_some_iff.1 info5
  simp only [Prod.mk.injEq] at hz
  obtain ⟨hz0, hz1, hz2⟩ := hz
  have hnews : ∀ j u, (nums .u8 ys)[j]? = some u → w.cell? ((⟨G, 0, none⟩ : Addr).add j) = some u := World.news_of_block (cs := (nums .u8 ys).toArray) hG
  rw [List.length_append]
  by_cases hroom : xs.length + ys.length ≤ cap
  · obtain ⟨w', hst, hrx, hm⟩ := h.store (ys := ys) hroom
    have hf := run_firstCells_some (P := Try.prog) w 1 ys.length ⟨G, 0, none⟩ ys.length c (nums .u8 ys) (by rw [nums_len]; omega) hnews
    have hadd : (⟨g, 0, none⟩ : Addr).add xs.length = ⟨g, xs.length, none⟩ := by unfold Addr.add; split <;> simp_all
    refine ⟨g, cap, w', ?_, hrx, ⟨hm.os, hm.tape, hm.output, hm.size, fun k hk hne => hm.block k hk (fun e => hne (by rw [e]))⟩⟩
    simp [Builtin.append_, run_underlying Try.underlying32, sizeOf, typeInfo, hi, hz1, Builtin.lenOf, hroom, hf, hadd, hst, Result.andThen]
  · have hr := run_append_grow (P := Try.prog) w 32 ty 5 i0 (.int .u8 0) Try.underlying32 hi hz0 ⟨g, 0, none⟩ xs.length cap (nums .u8 xs) (by rw [hz1, nums_len]; omega) h.cells ⟨G, 0, none⟩ ys.length c (nums .u8 ys) (by rw [hz1, nums_len]; omega) hnews (by omega) (by omega) (by rw [hz2]; exact growslice_fits (by omega) (by omega))
    have hgr := RX.grown (xs := xs) (ys := ys) hbase hb cap (some g)
    exact ⟨_, _, _, hr, hgr.1, hgr.2⟩

/-- string(p) of a row of one's own -/
theorem RX.string {w : World} {B g cap : Nat} {xs : List Int} (h : RX w B g cap xs) : (convert 32 9 (sl g xs.length cap)).run Try.prog w = .ok (.string (strOfNums xs)) w := by
  refine run_convert_bytes_arg w 32 5 Try.underlying32 Try.underlying5 g 0 xs.length cap xs rfl (fun i hi => ?_) 9 Try.underlying9
  have hc := h.cells i (.int .u8 (xs.getD i 0)) (by simp [nums, List.getElem?_eq_getElem hi, List.getD_eq_getElem?_getD])
  have ha : (⟨g, 0, none⟩ : Addr).add i = ⟨g, 0 + i, none⟩ := by unfold Addr.add; split <;> simp_all
  rwa [ha] at hc

/-- []byte(s) -/
theorem RX.made (w : World) (B : Nat) (s : ByteArray) (hB : B ≤ w.heap.size) (hs : s.size ≤ 140737488355328) : RX (Lib.bytesWorld w 5 s) B w.heap.size (grownCap w s.size 0 5) (bytesOf s) := by
  have hge := grownCap_ge w s.size 0 5
  have hcm : grownCap w s.size 0 5 ≤ maxLen := grownCap_le_maxLen w s.size 0 5 (by simp only [maxLen]; omega)
  have hsz : (Lib.bytesCells w 5 s).size = grownCap w s.size 0 5 := by
    have : s.data.size = s.size := rfl
    simp [Lib.bytesCells, this]
    omega
  refine ⟨hB, by rw [bytesOf_length]; exact hge, hcm, _, _, Lib.bytesWorld_at_new w 5 s, hsz, ?_, .inr (by rw [hsz]; exact Nat.le_refl _)⟩
  have e : (Lib.bytesCells w 5 s).toList = nums .u8 (bytesOf s) ++ (Array.replicate (grownCap w s.size 0 5 - s.size) (Value.int .u8 0)).toList := by
    unfold Lib.bytesCells
    rw [Array.toList_append, Array.toList_map, ← strCells_bytes]
    rfl
  rw [e, List.take_append_of_le_length (by rw [nums_len]; exact Nat.le_refl _), List.take_of_length_le (by rw [nums_len]; exact Nat.le_refl _)]

section
variable {ops : Array Oper} {rest : List Oper} {o : Oper} {a : Act} {Q : Exit → Act → World → Prop}
theorem wp_app_str {w : World} (hgd : o.guard = none) (sx x : Operand) (ho : o.op = .call { callee := .builtin .append, args := #[sx, x], argTypes := #[32, 9] })
    (B g cap : Nat) (xs : List Int) (h : RX w B g cap xs) (s : ByteArray) (hs : a.eval sx = sl g xs.length cap) (hx : a.eval x = .string s) (hb : xs.length + s.size ≤ 140737488355328) (hbase : B ≤ w.heap.size)
    (hK : ∀ zs g' cap' w', Aside0 (xs ++ bytesOf s = zs) → RX w' B g' cap' zs → w.grownBy w' (some g) → wpList Try.prog ops Q rest (a.put o.dst (sl g' zs.length cap')) w') : wpList Try.prog ops Q (o :: rest) a w := by
  refine wpList_plain hgd fun K hKK => ?_
  obtain ⟨g', cap', w', hr, h2, h3⟩ := appX_str w o.type B g cap xs h s hb hbase
  unfold Oper.wp execOp
  simp only [ho, resolve, invoke, builtin, Sem.run_bind, Sem.run_pure, Result.andThen_ok, List.map_toArray, List.map_cons, List.map_nil, hs, hx, hr]
  exact hKK _ _ (hK _ g' cap' w' ⟨rfl⟩ h2 h3)
theorem wp_app_lit {w : World} (hgd : o.guard = none) (sx x : Operand) (ho : o.op = .call { callee := .builtin .append, args := #[sx, x], argTypes := #[32, 32] })
    (B g cap : Nat) (xs : List Int) (h : RX w B g cap xs) (ys : List Int) (G c : Nat) (hG : w.heap[G]? = some (.cells (nums .u8 ys).toArray 5 (0, 0))) (hs : a.eval sx = sl g xs.length cap) (hx : a.eval x = sl G ys.length c) (hb : xs.length + ys.length ≤ 140737488355328) (hbase : B ≤ w.heap.size)
    (hK : ∀ zs g' cap' w', Aside0 (xs ++ ys = zs) → RX w' B g' cap' zs → w.grownBy w' (some g) → wpList Try.prog ops Q rest (a.put o.dst (sl g' zs.length cap')) w') : wpList Try.prog ops Q (o :: rest) a w := by
  refine wpList_plain hgd fun K hKK => ?_
  obtain ⟨g', cap', w', hr, h2, h3⟩ := appX_lit w o.type B g cap xs h G c ys hG hb hbase
  unfold Oper.wp execOp
  simp only [ho, resolve, invoke, builtin, Sem.run_bind, Sem.run_pure, Result.andThen_ok, List.map_toArray, List.map_cons, List.map_nil, hs, hx, hr]
  exact hKK _ _ (hK _ g' cap' w' ⟨rfl⟩ h2 h3)
end

/-- block p is a packer that has laid xs -/
structure Pk (B : Nat) (w : World) (p g cap : Nat) (xs : List Int) : Prop where
  blk : w.heap[p]? = some (.cells #[sl g xs.length cap] 62 (0, 0))
  row : RX w B g cap xs
  hp : B ≤ p
section
variable {B : Nat} {w w' : World} {p g cap : Nat} {xs : List Int}
theorem Pk.c0 (h : Pk B w p g cap xs) : w.cell? ⟨p, 0, none⟩ = some (sl g xs.length cap) := blk_at_cells h.blk rfl
theorem Pk.f0 (h : Pk B w p g cap xs) : w.frozen? ⟨p, 0, none⟩ = false := blk_frozen h.blk 0
theorem Pk.ne (h : Pk B w p g cap xs) : p ≠ g := by
  intro e
  obtain ⟨_, _, _, cur, fz, hg, _⟩ := h.row
  have := h.blk
  rw [e, hg] at this
  injection this with this
  injection this with _ ht
  exact absurd ht (by decide)
theorem Pk.below (h : Pk B w p g cap xs) (hb : Below w.heap.size w w') : Pk B w' p g cap xs := ⟨(Mod.of_below (fun _ => False) hb).blk h.blk (fun h => h), h.row.mod (Mod.of_below (fun _ => False) hb) (fun h => h), h.hp⟩
theorem Pk.alloc (h : Pk B w p g cap xs) (o : Obj) : Pk B (w.alloc o) p g cap xs := h.below ((Below.refl _ _).alloc (Nat.le_refl _) o)
/-- a map's block turned alone -/
theorem Pk.map (h : Pk B w p g cap xs) {M n : Nat} {D : DataW Unit} (hM : Mp w M n D) (hm : Mod (· = M) w w') : Pk B w' p g cap xs := by
  obtain ⟨es, cl, h1, _⟩ := hM
  refine ⟨hm.blk h.blk (fun e => ?_), h.row.mod hm (fun e => ?_), h.hp⟩
  · have e : p = M := e
    have := h.blk
    rw [e, h1] at this
    cases this
  · have e : g = M := e
    obtain ⟨_, _, _, cur, fz, hg, _⟩ := h.row
    rw [e, h1] at hg
    cases hg
/-- behind an append, and the new slice stored -/
theorem Pk.appended (h : Pk B w p g cap xs) {g' cap' : Nat} {ys : List Int} (hr : RX w' B g' cap' ys) (hg : w.grownBy w' (some g)) :
    w'.cell? ⟨p, 0, none⟩ = some (sl g xs.length cap) ∧ w'.frozen? ⟨p, 0, none⟩ = false ∧ Pk B (w'.setCell ⟨p, 0, none⟩ (sl g' ys.length cap')) p g' cap' ys := by
  have hb := blk_grown h.blk hg (by simpa using h.ne)
  have hne : p ≠ g' := by
    intro e
    obtain ⟨_, _, _, cur, fz, hgg, _⟩ := hr
    rw [e, hgg] at hb
    injection hb with hb
    injection hb with _ ht
    exact absurd ht (by decide)
  exact ⟨blk_at_cells hb rfl, blk_frozen hb 0, blk_put hb 0 _ rfl, hr.mod ((Mod.refl (· = p) w').setCell ⟨p, 0, none⟩ _ (.inl rfl)) (fun e => hne e.symm), h.hp⟩
/-- what an append leaves below, and of the map -/
theorem Pk.frame (h : Pk B w p g cap xs) (hg : w.grownBy w' (some g)) (v : Value) {w0 : World} (hb : Below B w0 w) (hB : B ≤ w.heap.size) : Below B w0 (w'.setCell ⟨p, 0, none⟩ v) ∧ B ≤ (w'.setCell ⟨p, 0, none⟩ v).heap.size ∧ ∀ M n D, Mp w M n D → Mp (w'.setCell ⟨p, 0, none⟩ v) M n D := by
  refine ⟨(hb.grown hg hB (fun k hk => by cases hk; exact h.row.lt.1)).setCell h.hp v, by rw [World.size_setCell]; exact Nat.le_trans hB hg.size, ?_⟩
  rintro M n D ⟨es, cl, h1, h2⟩
  have hMg : M ≠ g := by
    intro e
    obtain ⟨_, _, _, cur, fz, hgg, _⟩ := h.row
    rw [← e, h1] at hgg
    cases hgg
  have hMp : M ≠ p := by
    intro e
    have := h.blk
    rw [← e, h1] at this
    cases this
  refine ⟨es, cl, ?_, h2⟩
  rw [Below.heap_setCell w' ⟨p, 0, none⟩ v M hMp, hg.block M (blk_lt h1) (by simpa using hMg)]
  exact h1
end
end Go.Proofs.Ytpceignbgnekmaa.Sq

/- squeeze's packer: what it lays, by contracts. -/
namespace Go.Proofs.Ytpceignbgnekmaa.Sq
open Go.RowKit Go.Proofs.YtpceignbgnekmaaW.PrintWords Go.Proofs.Ytpceignbgnekmaa.By Go.Proofs.Ytpceignbgnekmaa.Md Go.Proofs.Ytpceignbgnekmaa.Cur Go.Proofs.Ytpceignbgnekmaa.Sn

set_option maxRecDepth 100000 in
set_option maxHeartbeats 1000000 in
theorem fits_calls (n : Int) (h0 : 0 ≤ n) (h1 : n < 65536) (w : World) : Calls Try.prog 73 #[.int .u64 n, .int .i64 2] w fun e w' => e = .returned (.bool true) ∧ w = w' := by
  have hd : n / 65536 = 0 := by omega
  go_enter Try.func73, Try.ntmps73
  go_wp2_with fail
  go_ret
  exact ⟨rfl, rfl⟩

set_option maxRecDepth 100000 in
set_option maxHeartbeats 1000000 in
theorem digits_calls (n : Int) (h0 : 0 ≤ n) (h1 : n < 65536) (w : World) : Calls Try.prog 74 #[.int .u64 n, .int .i64 2] w fun e w' => ∃ g, e = .returned (sl g 2 2) ∧ w'.heap[g]? = some (.cells #[.int .u8 (n % 256), .int .u8 (n / 256)] 5 (0, 0)) ∧ Below w.heap.size w w' := by
  have hmk : ∀ W : World, (Instr.makeSlice 32 (.int .i64 2) (.int .i64 2)).run Try.prog W = .ok (sl W.heap.size 2 2) (W.alloc (.cells #[.int .u8 0, .int .u8 0] 5)) := by
    intro W
    obtain ⟨i0, hi, hz⟩ := Option.map_eq_some_iff.1 info5
    simp only [Prod.mk.injEq] at hz
    obtain ⟨hz0, hz1, hz2⟩ := hz
    have := run_makeSlice (P := Try.prog) W 32 5 i0 (.int .u8 0) Try.underlying32 hi hz0 .i64 .i64 2 2 (by decide) (by decide) (by rw [hz1]; decide) (by rw [hz2]; decide) (by decide)
    rw [this, hz1]
    have e : madeCells (Value.int IntKind.u8 0).cells (Int.toNat 2 * 1) = #[.int .u8 0, .int .u8 0] := by kernel_rfl
    rw [e]
    rfl
  have HB := Aside0.mk ((Below.refl w.heap.size w).alloc (Nat.le_refl _) (.cells #[.int .u8 0, .int .u8 0] 5))
  have HN := Aside0.mk (blk_new w (.cells #[.int .u8 0, .int .u8 0] 5))
  obtain ⟨g, hg⟩ : ∃ g, w.heap.size = g := ⟨_, rfl⟩
  go_enter Try.func74, Try.ntmps74
  go_wp2_with fail
  rw [hg] at HN
  go_loopg [11] 2 (fun kq v11 wr => ∃ (j : Nat), v11 = .int .i64 j ∧ j ≤ 2 ∧ Aside0 (kq = 2 - j) ∧ Aside0 (wr.heap[g]? = some (.cells #[.int .u8 (if 0 < j then n % 256 else 0), .int .u8 (if 1 < j then n / 256 else 0)] 5 (0, 0))) ∧ Aside0 (Below g w wr))
  case atStart => exact ⟨0, by go_num, by omega, ⟨by omega⟩, HN, ⟨by rw [← hg]; exact HB.out⟩⟩
  case round =>
    clear HB HN hmk
    obtain ⟨j, rfl, hj, HK, HN, HB⟩ := hrel
    have hc0 := blk_at_cells HN.out (i := 0) rfl
    have hc1 := blk_at_cells HN.out (i := 1) rfl
    have hf0 := blk_frozen HN.out 0
    have hf1 := blk_frozen HN.out 1
    obtain rfl | rfl | rfl : j = 0 ∨ j = 1 ∨ j = 2 := by omega
    · go_wp2_with fail
      go_roundg 1
      case measure => have := HK.out; omega
      case rel =>
        refine ⟨1, by go_num, by omega, ⟨rfl⟩, ⟨?_⟩, ⟨HB.out.setCell (Nat.le_refl _) _⟩⟩
        exact blk_put HN.out 0 _ rfl
    · go_wp2_with fail
      go_roundg 0
      case measure => have := HK.out; omega
      case rel =>
        refine ⟨2, by go_num, by omega, ⟨rfl⟩, ⟨?_⟩, ⟨HB.out.setCell (Nat.le_refl _) _⟩⟩
        exact blk_put HN.out 1 _ rfl
    · go_wp2_with fail
      go_ret
      exact ⟨g, rfl, HN.out, by rw [hg]; exact HB.out⟩

theorem keep_calls (v : Value) (w : World) : Calls Try.prog 71 #[v] w fun e w' => e = .returned (.tuple #[]) ∧ w = w' := by
  go_enter Try.func71, Try.ntmps71
  go_wp2_with fail
  go_end0
  exact ⟨rfl, rfl⟩

set_option maxRecDepth 100000 in
set_option maxHeartbeats 1000000 in
theorem put_calls (n : Int) (h0 : 0 ≤ n) (h1 : n < 65536) (w : World) : Calls Try.prog 70 #[.int .u64 n, .int .i64 2, .func (.func 71) #[] #[]] w fun e w' => e = .returned (.tuple #[.string (strOfNums [n % 256, n / 256]), .int .i64 0]) ∧ Below w.heap.size w w' := by
  go_enter Try.func70, Try.ntmps70
  go_wp2_with fail
  refine (fits_calls n h0 h1 w).mono ?_
  rintro e w1 ⟨rfl, rfl⟩
  go_wp2_with fail
  refine (digits_calls n h0 h1 w).mono ?_
  rintro e w2 ⟨g, rfl, hg, hb⟩
  have hcv : (convert 32 9 (sl g 2 2)).run Try.prog w2 = .ok (.string (strOfNums [n % 256, n / 256])) w2 := by
    refine RX.string (B := 0) (xs := [n % 256, n / 256]) ⟨by omega, by simp, by decide, _, _, hg, rfl, rfl, .inl rfl⟩
  have HB := Aside0.mk hb
  clear hb hg
  go_wp2_with fail
  refine (keep_calls _ _).mono ?_
  rintro e w3 ⟨rfl, rfl⟩
  go_wp2_with fail
  go_ret2
  exact ⟨rfl, HB.out⟩

set_option maxRecDepth 100000 in
set_option maxHeartbeats 1000000 in
theorem little_calls (n : Int) (h0 : 0 ≤ n) (h1 : n < 65536) (w : World) : Calls Try.prog 65 #[.int .u64 n, .int .i64 2] w fun e w' => e = .returned (.tuple #[.string (strOfNums [n % 256, n / 256]), .int .i64 0]) ∧ Below w.heap.size w w' := by
  go_enter Try.func65, Try.ntmps65
  go_wp2_with fail
  refine (put_calls n h0 h1 w).mono ?_
  rintro e w1 ⟨rfl, hb⟩
  have HB := Aside0.mk hb
  clear hb
  go_wp2_with fail
  go_ret2
  exact ⟨rfl, HB.out⟩

/-- a call that answers nothing; the packer has laid ys -/
def Pkd (B : Nat) (w0 w : World) (p : Nat) (ys : List Int) (e : Ending) (w' : World) : Prop :=
  e = .returned (.tuple #[]) ∧ ∃ g cap, Pk B w' p g cap ys ∧ Below B w0 w' ∧ B ≤ w'.heap.size ∧ ∀ M n D, Mp w M n D → Mp w' M n D

set_option maxRecDepth 100000 in
set_option maxHeartbeats 1000000 in
theorem plittle_calls (B : Nat) (w0 w : World) (p g cap : Nat) (xs : List Int) (h : Pk B w p g cap xs) (hb : Below B w0 w) (hB : B ≤ w.heap.size) (n : Int) (h0 : 0 ≤ n) (h1 : n < 65536) (hlen : xs.length + 2 ≤ 140737488355328) :
    Calls Try.prog 54 #[Ptr p, .int .i64 n] w (Pkd B w0 w p (xs ++ [n % 256, n / 256])) := by
  obtain ⟨s, hs⟩ : ∃ s, strOfNums [n % 256, n / 256] = s := ⟨_, rfl⟩
  have hsb : bytesOf s = [n % 256, n / 256] := by rw [← hs]; exact bytes_str (InByte.cons ⟨by omega, by omega⟩ (InByte.cons ⟨by omega, by omega⟩ InByte.nil))
  have hsz : s.size = 2 := by rw [size_eq, hsb]; rfl
  rw [← hsb]
  have hli := little_calls n h0 h1 w
  rw [hs] at hli
  have HLI := Aside0.mk hli
  have H := Aside0.mk h
  have HBl := Aside0.mk hb
  have HSZ := Aside0.mk hsz
  clear hli h hb hs hsb hsz
  go_enter Try.func54, Try.ntmps54
  go_wp2_with fail
  refine HLI.out.mono ?_
  rintro e w1 ⟨rfl, hb1⟩
  have H1 := Aside0.mk (H.out.below hb1)
  have HB1 := Aside0.mk (HBl.out.trans (hb1.mono hB))
  have hB1 : B ≤ w1.heap.size := Nat.le_trans hB hb1.size
  have HMp : Aside0 (∀ M n D, Mp w M n D → Mp w1 M n D) := ⟨fun M n D hM => hM.below hb1⟩
  have c0 := H1.out.c0
  have hbytes : xs.length + s.size ≤ 140737488355328 := by have := HSZ.out; omega
  clear hb1 HLI H
  go_wp2_with (at_builtin; refine wp_app_str rfl (.tmp 16) (.tmp 17) rfl B g cap xs H1.out.row s rfl rfl hbytes hB1 ?_; intro zs g2 cap2 w2 HZS hr hg; obtain ⟨d0, df, hpk⟩ := H1.out.appended hr hg; have HF := Aside0.mk (fun v => H1.out.frame hg v HB1.out hB1); have HPK := Aside0.mk hpk; clear hr hg hpk c0)
  go_end0
  obtain ⟨f1, f2, f3⟩ := HF.out (sl g2 zs.length cap2)
  exact ⟨rfl, g2, cap2, by rw [HZS.out]; exact HPK.out, f1, f2, fun M n D hM => f3 M n D (HMp.out M n D hM)⟩
end Go.Proofs.Ytpceignbgnekmaa.Sq

/- squeeze's packer: a literal, a copy. -/
namespace Go.Proofs.Ytpceignbgnekmaa.Sq
open Go.RowKit Go.Proofs.YtpceignbgnekmaaW.PrintWords Go.Proofs.Ytpceignbgnekmaa.By Go.Proofs.Ytpceignbgnekmaa.Md Go.Proofs.Ytpceignbgnekmaa.Cur Go.Proofs.Ytpceignbgnekmaa.Sn

/-- the bytes of a literal -/
def litB (l : List Int) : List Int :=
  if l.length = 0 then [] else if l.length ≤ 60 then 4 * ((l.length : Int) - 1) :: l else if l.length ≤ 256 then 240 :: ((l.length : Int) - 1) :: l
  else 244 :: (((l.length : Int) - 1) % 256) :: (((l.length : Int) - 1) / 256) :: l
/-- the bytes of a copy -/
def cpB (n b : Int) : List Int := if n ≤ 11 ∧ b < 2048 then [1 + 4 * (n - 4) + 32 * (b / 256), b % 256] else [2 + 4 * (n - 1), b % 256, b / 256]

set_option maxRecDepth 100000 in
set_option maxHeartbeats 2000000 in
theorem literal_calls (B : Nat) (w0 w : World) (p g cap : Nat) (xs : List Int) (h : Pk B w p g cap xs) (hb : Below B w0 w) (hB : B ≤ w.heap.size) (s : ByteArray) (hs : s.size ≤ 65536) (hlen : xs.length ≤ 1000000) :
    Calls Try.prog 44 #[Ptr p, .string s] w (Pkd B w0 w p (xs ++ litB (bytesOf s))) := by
  have H := Aside0.mk h
  have HBl := Aside0.mk hb
  have c0 := h.c0
  have HL := Aside0.mk (bytesOf_length s)
  obtain ⟨F, hF⟩ : ∃ F, F = xs ++ litB (bytesOf s) := ⟨_, rfl⟩
  rw [← hF]
  clear h hb
  by_cases h0 : s.size = 0
  · have e : litB (bytesOf s) = [] := by rw [litB, if_pos (by rw [HL.out]; exact h0)]
    have t0 : ((s.size : Int) == 0) = true := beq_iff_eq.2 (by omega)
    rw [e, List.append_nil] at hF
    subst hF
    go_enter Try.func44, Try.ntmps44
    go_wp2_with fail
    refine bodyPost_ret (results_none rfl _ _ _) rfl ?_
    exact ⟨rfl, g, cap, H.out, HBl.out, hB, fun _ _ _ h => h⟩
  · have t0 : ((s.size : Int) == 0) = false := beq_eq_false_iff_ne.mpr (by omega)
    by_cases h60 : s.size ≤ 60
    · have t1 : decide ((s.size : Int) ≤ 60) = true := decide_eq_true (by omega)
      obtain ⟨A, hA⟩ : ∃ A : Int, ((s.size : Int) - 1) * 4 = A := ⟨_, rfl⟩
      have hA0 : 0 ≤ A := by omega
      have hA1 : A < 256 := by omega
      have e : litB (bytesOf s) = [A] ++ bytesOf s := by rw [litB, if_neg (by rw [HL.out]; exact h0), if_pos (by rw [HL.out]; exact h60), HL.out, ← hA, Int.mul_comm]; rfl
      rw [e] at hF
      have HFF := Aside0.mk hF
      have H1 := Aside0.mk (H.out.alloc (.cells #[.int .u8 A] 5))
      have HB1 := Aside0.mk (HBl.out.alloc hB (.cells #[.int .u8 A] 5))
      have hB1 : B ≤ (w.alloc (.cells #[.int .u8 A] 5)).heap.size := Nat.le_trans hB (by simp)
      have HG : Aside0 ((w.alloc (.cells #[.int .u8 A] 5)).heap[w.heap.size]? = some (.cells (nums .u8 [A]).toArray 5 (0, 0))) := ⟨blk_new w (.cells #[.int .u8 A] 5)⟩
      have HM1 : Aside0 (∀ M n D, Mp w M n D → Mp (w.alloc (.cells #[.int .u8 A] 5)) M n D) := ⟨fun M n D hM => hM.alloc _⟩
      have hb1 : xs.length + [A].length ≤ 140737488355328 := by show xs.length + 1 ≤ _; omega
      clear e hF
      go_enter Try.func44, Try.ntmps44
      go_wp2_with (first | (at_builtin; refine wp_app_lit rfl (.tmp 30) (.tmp 35) rfl B _ _ _ H1.out.row [A] _ _ HG.out rfl rfl hb1 hB1 ?_; intro zs1 g1 cap1 w1 HZ1 hr hg; obtain ⟨d0, df, hpk⟩ := H1.out.appended hr hg; have HF1 := Aside0.mk (fun v => H1.out.frame hg v HB1.out hB1); have HP1 := Aside0.mk hpk; clear hr hg hpk) | (at_builtin; refine wp_app_str rfl (.tmp 58) (.tmp 59) rfl B _ _ _ HP1.out.row s rfl rfl (by have e := congrArg List.length HZ1.out; rw [List.length_append] at e; simp only [List.length_cons, List.length_nil] at e; omega) (HF1.out (sl g1 zs1.length cap1)).2.1 ?_; intro zs2 g2 cap2 w2 HZ2 hr hg; obtain ⟨d0, df, hpk⟩ := HP1.out.appended hr hg; have HF2 := Aside0.mk (fun v => HP1.out.frame hg v (HF1.out (sl g1 zs1.length cap1)).1 (HF1.out (sl g1 zs1.length cap1)).2.1); have HP2 := Aside0.mk hpk; clear hr hg hpk))
      go_end0
      refine ⟨rfl, g2, cap2, ?_, (HF2.out (sl g2 zs2.length cap2)).1, (HF2.out (sl g2 zs2.length cap2)).2.1, fun M n D hM => (HF2.out (sl g2 zs2.length cap2)).2.2 M n D ((HF1.out (sl g1 zs1.length cap1)).2.2 M n D (HM1.out M n D hM))⟩
      have e : zs2 = F := by rw [← HZ2.out, ← HZ1.out, HFF.out]; simp
      rw [← e]
      exact HP2.out
    · have t1 : decide ((s.size : Int) ≤ 60) = false := decide_eq_false (by omega)
      obtain ⟨A, hA⟩ : ∃ A : Int, (s.size : Int) - 1 = A := ⟨_, rfl⟩
      by_cases h256 : s.size ≤ 256
      · have t2 : decide ((s.size : Int) ≤ 256) = true := decide_eq_true (by omega)
        have e : litB (bytesOf s) = [240, A] ++ bytesOf s := by rw [litB, if_neg (by rw [HL.out]; exact h0), if_neg (by rw [HL.out]; exact h60), if_pos (by rw [HL.out]; exact h256), HL.out, ← hA]; rfl
        have hA0 : 0 ≤ A := by omega
        have hA1 : A < 256 := by omega
        rw [e] at hF
        have HFF := Aside0.mk hF
        have H1 := Aside0.mk (H.out.alloc (.cells #[.int .u8 240, .int .u8 A] 5))
        have HB1 := Aside0.mk (HBl.out.alloc hB (.cells #[.int .u8 240, .int .u8 A] 5))
        have hB1 : B ≤ (w.alloc (.cells #[.int .u8 240, .int .u8 A] 5)).heap.size := Nat.le_trans hB (by simp)
        have HG : Aside0 ((w.alloc (.cells #[.int .u8 240, .int .u8 A] 5)).heap[w.heap.size]? = some (.cells (nums .u8 [240, A]).toArray 5 (0, 0))) := ⟨blk_new w (.cells #[.int .u8 240, .int .u8 A] 5)⟩
        have HM1 : Aside0 (∀ M n D, Mp w M n D → Mp (w.alloc (.cells #[.int .u8 240, .int .u8 A] 5)) M n D) := ⟨fun M n D hM => hM.alloc _⟩
        have hb1 : xs.length + [240, A].length ≤ 140737488355328 := by show xs.length + 2 ≤ _; omega
        clear e hF
        go_enter Try.func44, Try.ntmps44
        go_wp2_with (first | (at_builtin; refine wp_app_lit rfl (.tmp 46) (.tmp 50) rfl B _ _ _ H1.out.row [240, A] _ _ HG.out rfl rfl hb1 hB1 ?_; intro zs1 g1 cap1 w1 HZ1 hr hg; obtain ⟨d0, df, hpk⟩ := H1.out.appended hr hg; have HF1 := Aside0.mk (fun v => H1.out.frame hg v HB1.out hB1); have HP1 := Aside0.mk hpk; clear hr hg hpk) | (at_builtin; refine wp_app_str rfl (.tmp 58) (.tmp 59) rfl B _ _ _ HP1.out.row s rfl rfl (by have e := congrArg List.length HZ1.out; rw [List.length_append] at e; simp only [List.length_cons, List.length_nil] at e; omega) (HF1.out (sl g1 zs1.length cap1)).2.1 ?_; intro zs2 g2 cap2 w2 HZ2 hr hg; obtain ⟨d0, df, hpk⟩ := HP1.out.appended hr hg; have HF2 := Aside0.mk (fun v => HP1.out.frame hg v (HF1.out (sl g1 zs1.length cap1)).1 (HF1.out (sl g1 zs1.length cap1)).2.1); have HP2 := Aside0.mk hpk; clear hr hg hpk))
        go_end0
        refine ⟨rfl, g2, cap2, ?_, (HF2.out (sl g2 zs2.length cap2)).1, (HF2.out (sl g2 zs2.length cap2)).2.1, fun M n D hM => (HF2.out (sl g2 zs2.length cap2)).2.2 M n D ((HF1.out (sl g1 zs1.length cap1)).2.2 M n D (HM1.out M n D hM))⟩
        have e : zs2 = F := by rw [← HZ2.out, ← HZ1.out, HFF.out]; simp
        rw [← e]
        exact HP2.out
      · have t2 : decide ((s.size : Int) ≤ 256) = false := decide_eq_false (by omega)
        have e : litB (bytesOf s) = [244] ++ ([A % 256, A / 256] ++ bytesOf s) := by rw [litB, if_neg (by rw [HL.out]; exact h0), if_neg (by rw [HL.out]; exact h60), if_neg (by rw [HL.out]; exact h256), HL.out, ← hA]; rfl
        have hA0 : 0 ≤ A := by omega
        have hA1 : A < 65536 := by omega
        rw [e] at hF
        have HFF := Aside0.mk hF
        have H1 := Aside0.mk (H.out.alloc (.cells #[.int .u8 244] 5))
        have HB1 := Aside0.mk (HBl.out.alloc hB (.cells #[.int .u8 244] 5))
        have hB1 : B ≤ (w.alloc (.cells #[.int .u8 244] 5)).heap.size := Nat.le_trans hB (by simp)
        have HG : Aside0 ((w.alloc (.cells #[.int .u8 244] 5)).heap[w.heap.size]? = some (.cells (nums .u8 [244]).toArray 5 (0, 0))) := ⟨blk_new w (.cells #[.int .u8 244] 5)⟩
        have HM1 : Aside0 (∀ M n D, Mp w M n D → Mp (w.alloc (.cells #[.int .u8 244] 5)) M n D) := ⟨fun M n D hM => hM.alloc _⟩
        have hb1 : xs.length + [244].length ≤ 140737488355328 := by show xs.length + 1 ≤ _; omega
        clear e hF
        go_enter Try.func44, Try.ntmps44
        go_wp2_with (at_builtin; refine wp_app_lit rfl (.tmp 11) (.tmp 12) rfl B _ _ _ H1.out.row [244] _ _ HG.out rfl rfl hb1 hB1 ?_; intro zs1 g1 cap1 w1 HZ1 hr hg; obtain ⟨d0, df, hpk⟩ := H1.out.appended hr hg; have HF1 := Aside0.mk (fun v => H1.out.frame hg v HB1.out hB1); have HP1 := Aside0.mk hpk; clear hr hg hpk)
        have hlz : zs1.length ≤ 1000001 := by have e := congrArg List.length HZ1.out; rw [List.length_append] at e; simp only [List.length_cons, List.length_nil] at e; omega
        refine (plittle_calls B w0 _ p g1 cap1 zs1 HP1.out (HF1.out (sl g1 zs1.length cap1)).1 (HF1.out (sl g1 zs1.length cap1)).2.1 A hA0 hA1 (by omega)).mono ?_
        rintro e w5 ⟨rfl, g5, cap5, hp5, hb5, hB5, hm5⟩
        have HP5 := Aside0.mk hp5
        have HB5 := Aside0.mk hb5
        have HM5 := Aside0.mk hm5
        have c5 := hp5.c0
        obtain ⟨z5, hz5⟩ : ∃ z5, zs1 ++ [A % 256, A / 256] = z5 := ⟨_, rfl⟩
        rw [hz5] at HP5 c5
        have HZ5 := Aside0.mk hz5
        clear hp5 hb5 hm5 hz5
        go_wp2_with (at_builtin; refine wp_app_str rfl (.tmp 58) (.tmp 59) rfl B _ _ _ HP5.out.row s rfl rfl (by have e := congrArg List.length HZ5.out; rw [List.length_append] at e; simp only [List.length_cons, List.length_nil] at e; omega) hB5 ?_; intro zs2 g2 cap2 w2 HZ2 hr hg; obtain ⟨d0, df, hpk⟩ := HP5.out.appended hr hg; have HF2 := Aside0.mk (fun v => HP5.out.frame hg v HB5.out hB5); have HP2 := Aside0.mk hpk; clear hr hg hpk)
        go_end0
        refine ⟨rfl, g2, cap2, ?_, (HF2.out (sl g2 zs2.length cap2)).1, (HF2.out (sl g2 zs2.length cap2)).2.1, fun M n D hM => (HF2.out (sl g2 zs2.length cap2)).2.2 M n D (HM5.out M n D ((HF1.out (sl g1 zs1.length cap1)).2.2 M n D (HM1.out M n D hM)))⟩
        have e : zs2 = F := by rw [← HZ2.out, ← HZ5.out, ← HZ1.out, HFF.out]; simp
        rw [← e]
        exact HP2.out
end Go.Proofs.Ytpceignbgnekmaa.Sq

/- squeeze's packer: a copy. -/
namespace Go.Proofs.Ytpceignbgnekmaa.Sq
open Go.RowKit Go.Proofs.YtpceignbgnekmaaW.PrintWords Go.Proofs.Ytpceignbgnekmaa.By Go.Proofs.Ytpceignbgnekmaa.Md Go.Proofs.Ytpceignbgnekmaa.Cur Go.Proofs.Ytpceignbgnekmaa.Sn

theorem or_low (i : Nat) (x y : Int) (hx0 : 0 ≤ x) (hx : x < 2 ^ i) (hy0 : 0 ≤ y) (hy1 : y < 4294967296) (hm : y % 2 ^ i = 0) (hx1 : x < 4294967296) : bits BinOp.or IntKind.i64 x y = x + y := by
  have h63 : (2 : Int) ^ 63 = 9223372036854775808 := by decide
  exact bits_join_low .i64 63 (by decide) (fun n h0 h1 => i64_id h0 h1) i x y hx0 hx (by omega) hy0 hm (by omega)

set_option maxRecDepth 100000 in
set_option maxHeartbeats 2000000 in
theorem copied_calls (B : Nat) (w0 w : World) (p g cap : Nat) (xs : List Int) (h : Pk B w p g cap xs) (hb : Below B w0 w) (hB : B ≤ w.heap.size) (n b : Int) (hn0 : 4 ≤ n) (hn1 : n ≤ 64) (hk0 : 1 ≤ b) (hk1 : b ≤ 65535) (hlen : xs.length ≤ 1000000) :
    Calls Try.prog 45 #[Ptr p, .int .i64 n, .int .i64 b] w (Pkd B w0 w p (xs ++ cpB n b)) := by
  have H := Aside0.mk h
  have HBl := Aside0.mk hb
  have c0 := h.c0
  obtain ⟨F, hF⟩ : ∃ F, F = xs ++ cpB n b := ⟨_, rfl⟩
  rw [← hF]
  clear h hb
  by_cases hc : n ≤ 11 ∧ b < 2048
  · have t1 : decide (n ≤ 11) = true := decide_eq_true hc.1
    have t2 : decide (b < 2048) = true := decide_eq_true hc.2
    obtain ⟨X, hX⟩ : ∃ X : Int, (n - 4) * 4 = X := ⟨_, rfl⟩
    obtain ⟨Y, hY⟩ : ∃ Y : Int, b / 256 * 32 = Y := ⟨_, rfl⟩
    obtain ⟨Z, hZ⟩ : ∃ Z : Int, b % 256 = Z := ⟨_, rfl⟩
    have e1 : bits BinOp.or IntKind.i64 1 X = 1 + X := or_low 2 1 X (by omega) (by decide) (by omega) (by omega) (by show X % 4 = 0; omega) (by omega)
    have e2 : bits BinOp.or IntKind.i64 (1 + X) Y = 1 + X + Y := or_low 5 (1 + X) Y (by omega) (by show 1 + X < 32; omega) (by omega) (by omega) (by show Y % 32 = 0; omega) (by omega)
    obtain ⟨V, hV⟩ : ∃ V : Int, 1 + X + Y = V := ⟨_, rfl⟩
    rw [hV] at e2
    obtain ⟨V1, hV1⟩ : ∃ V1 : Int, 1 + X = V1 := ⟨_, rfl⟩
    rw [hV1] at e1 e2
    have hV0 : 0 ≤ V := by omega
    have hV2 : V < 256 := by omega
    have hZ0 : 0 ≤ Z := by omega
    have hZ1 : Z < 256 := by omega
    have e : cpB n b = [V, Z] := by
      rw [cpB, if_pos hc, hZ, ← hV, ← hX, ← hY]
      congr 1
      omega
    rw [e] at hF
    have HFF := Aside0.mk hF
    clear e hF hV hV1
    have H1 := Aside0.mk (H.out.alloc (.cells #[.int .u8 V, .int .u8 Z] 5))
    have HB1 := Aside0.mk (HBl.out.alloc hB (.cells #[.int .u8 V, .int .u8 Z] 5))
    have hB1 : B ≤ (w.alloc (.cells #[.int .u8 V, .int .u8 Z] 5)).heap.size := Nat.le_trans hB (by simp)
    have HG : Aside0 ((w.alloc (.cells #[.int .u8 V, .int .u8 Z] 5)).heap[w.heap.size]? = some (.cells (nums .u8 [V, Z]).toArray 5 (0, 0))) := ⟨blk_new w (.cells #[.int .u8 V, .int .u8 Z] 5)⟩
    have HM1 : Aside0 (∀ M n D, Mp w M n D → Mp (w.alloc (.cells #[.int .u8 V, .int .u8 Z] 5)) M n D) := ⟨fun M n D hM => hM.alloc _⟩
    have hb1 : xs.length + [V, Z].length ≤ 140737488355328 := by show xs.length + 2 ≤ _; omega
    go_enter Try.func45, Try.ntmps45
    go_wp2_with (at_builtin; refine wp_app_lit rfl (.tmp 16) (.tmp 29) rfl B _ _ _ H1.out.row [V, Z] _ _ HG.out rfl rfl hb1 hB1 ?_; intro zs1 g1 cap1 w1 HZ1 hr hg; obtain ⟨d0, df, hpk⟩ := H1.out.appended hr hg; have HF1 := Aside0.mk (fun v => H1.out.frame hg v HB1.out hB1); have HP1 := Aside0.mk hpk; clear hr hg hpk)
    refine bodyPost_ret (results_none rfl _ _ _) rfl ?_
    refine ⟨rfl, g1, cap1, ?_, (HF1.out (sl g1 zs1.length cap1)).1, (HF1.out (sl g1 zs1.length cap1)).2.1, fun M n D hM => (HF1.out (sl g1 zs1.length cap1)).2.2 M n D (HM1.out M n D hM)⟩
    rw [HFF.out, HZ1.out]
    exact HP1.out
  · have ht : decide (n ≤ 11) = false ∨ (decide (n ≤ 11) = true ∧ decide (b < 2048) = false) := by
      by_cases h1 : n ≤ 11
      · exact .inr ⟨decide_eq_true h1, decide_eq_false (fun h2 => hc ⟨h1, h2⟩)⟩
      · exact .inl (decide_eq_false h1)
    obtain ⟨X, hX⟩ : ∃ X : Int, (n - 1) * 4 = X := ⟨_, rfl⟩
    have e1 : bits BinOp.or IntKind.i64 2 X = 2 + X := or_low 2 2 X (by omega) (by decide) (by omega) (by omega) (by show X % 4 = 0; omega) (by omega)
    obtain ⟨V, hV⟩ : ∃ V : Int, 2 + X = V := ⟨_, rfl⟩
    rw [hV] at e1
    have hV0 : 0 ≤ V := by omega
    have hV2 : V < 256 := by omega
    have e : cpB n b = [V] ++ [b % 256, b / 256] := by
      rw [cpB, if_neg hc, ← hV, ← hX, Int.mul_comm]
      rfl
    rw [e] at hF
    have HFF := Aside0.mk hF
    clear e hF hV
    have H1 := Aside0.mk (H.out.alloc (.cells #[.int .u8 V] 5))
    have HB1 := Aside0.mk (HBl.out.alloc hB (.cells #[.int .u8 V] 5))
    have hB1 : B ≤ (w.alloc (.cells #[.int .u8 V] 5)).heap.size := Nat.le_trans hB (by simp)
    have HG : Aside0 ((w.alloc (.cells #[.int .u8 V] 5)).heap[w.heap.size]? = some (.cells (nums .u8 [V]).toArray 5 (0, 0))) := ⟨blk_new w (.cells #[.int .u8 V] 5)⟩
    have HM1 : Aside0 (∀ M n D, Mp w M n D → Mp (w.alloc (.cells #[.int .u8 V] 5)) M n D) := ⟨fun M n D hM => hM.alloc _⟩
    have hb1 : xs.length + [V].length ≤ 140737488355328 := by show xs.length + 1 ≤ _; omega
    rcases ht with t1 | ⟨t1, t2⟩
    all_goals
      go_enter Try.func45, Try.ntmps45
      go_wp2_with (at_builtin; refine wp_app_lit rfl (.tmp 37) (.tmp 43) rfl B _ _ _ H1.out.row [V] _ _ HG.out rfl rfl hb1 hB1 ?_; intro zs1 g1 cap1 w1 HZ1 hr hg; obtain ⟨d0, df, hpk⟩ := H1.out.appended hr hg; have HF1 := Aside0.mk (fun v => H1.out.frame hg v HB1.out hB1); have HP1 := Aside0.mk hpk; clear hr hg hpk)
      have hlz : zs1.length ≤ 1000001 := by have e := congrArg List.length HZ1.out; rw [List.length_append] at e; simp only [List.length_cons, List.length_nil] at e; omega
      refine (plittle_calls B w0 _ p g1 cap1 zs1 HP1.out (HF1.out (sl g1 zs1.length cap1)).1 (HF1.out (sl g1 zs1.length cap1)).2.1 b (by omega) (by omega) (by omega)).mono ?_
      rintro e w5 ⟨rfl, g5, cap5, hp5, hb5, hB5, hm5⟩
      have HP5 := Aside0.mk hp5
      have HB5 := Aside0.mk hb5
      have HM5 := Aside0.mk hm5
      clear hp5 hb5 hm5
      go_wp2_with fail
      go_end0
      refine ⟨rfl, g5, cap5, ?_, HB5.out, hB5, fun M n D hM => HM5.out M n D ((HF1.out (sl g1 zs1.length cap1)).2.2 M n D (HM1.out M n D hM))⟩
      rw [HFF.out, ← List.append_assoc, HZ1.out]
      exact HP5.out
end Go.Proofs.Ytpceignbgnekmaa.Sq
