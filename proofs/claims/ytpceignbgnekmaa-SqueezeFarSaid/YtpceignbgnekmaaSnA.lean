/- snap's unpacker: its state, the laws of append at a step of a region that draws, room, little. -/
import Derived.Test.YtpceignbgnekmaaCurB
import Derived.Lib.AppendStr
import Derived.Deep.RegionLaw
namespace Go.Proofs.Ytpceignbgnekmaa.Sn
open Go.RowKit Go.Proofs.YtpceignbgnekmaaW.PrintWords Go.Proofs.Ytpceignbgnekmaa.By Go.Proofs.Ytpceignbgnekmaa.Md Go.Proofs.Ytpceignbgnekmaa.Cur

/-- block U is an unpacker over the reader R, that has laid xs -/
structure Un (B0 : Nat) (w : World) (U R : Nat) (A : Option Addr) (c : Nat) (xs : List Int) (size : Int) (s : ByteArray) (a : Nat) (f : Int) : Prop where
  blk : w.heap[U]? = some (.cells #[Ptr R, .slice A xs.length c, .int .i64 size] 73 (0, 0))
  own : w.ownsRow B0 5 1 (.slice A xs.length c) xs.length (nums .u8 xs)
  rd : Rd w R s a f
  hU : B0 ≤ U
  hR : B0 ≤ R

section
variable {B0 : Nat} {w w' : World} {U R : Nat} {A : Option Addr} {c : Nat} {xs : List Int} {size : Int} {s : ByteArray} {a : Nat} {f : Int}
theorem Un.c0 (h : Un B0 w U R A c xs size s a f) : w.cell? ⟨U, 0, none⟩ = some (Ptr R) := blk_at_cells h.blk rfl
theorem Un.c1 (h : Un B0 w U R A c xs size s a f) : w.cell? ⟨U, 1, none⟩ = some (.slice A xs.length c) := blk_at_cells h.blk rfl
theorem Un.c2 (h : Un B0 w U R A c xs size s a f) : w.cell? ⟨U, 2, none⟩ = some (.int .i64 size) := blk_at_cells h.blk rfl
theorem Un.f1 (h : Un B0 w U R A c xs size s a f) : w.frozen? ⟨U, 1, none⟩ = false := blk_frozen h.blk 1
theorem Un.ne (h : Un B0 w U R A c xs size s a f) : ¬ U = R := blk_ne h.blk h.rd (by decide)
theorem Un.neU (h : Un B0 w U R A c xs size s a f) : (Value.slice A xs.length c).ownBlock = none ∨ (Value.slice A xs.length c).ownBlock ≠ some U := by
  rcases h.own.2 with ⟨e, _⟩ | ⟨g, cap, cur, e, _, hh, _⟩
  · left; rw [e]; rfl
  · right
    rw [e]
    intro hg
    have : g = U := by simpa [Value.ownBlock] using hg
    exact blk_ne hh h.blk (by decide) this
theorem Un.neR (h : Un B0 w U R A c xs size s a f) : (Value.slice A xs.length c).ownBlock = none ∨ (Value.slice A xs.length c).ownBlock ≠ some R := by
  rcases h.own.2 with ⟨e, _⟩ | ⟨g, cap, cur, e, _, hh, _⟩
  · left; rw [e]; rfl
  · right
    rw [e]
    intro hg
    have : g = R := by simpa [Value.ownBlock] using hg
    exact blk_ne hh h.rd (by decide) this
/-- the reader alone went on -/
theorem Un.reader (h : Un B0 w U R A c xs size s a f) {a2 : Nat} {f2 : Int} (hm : Mod (· = R) w w') (hr : Rd w' R s a2 f2) : Un B0 w' U R A c xs size s a2 f2 :=
  ⟨hm.blk h.blk h.ne, own_mod h.own hm (fun k hk he => by
    subst he
    rcases h.neR with h1 | h1
    · rw [hk] at h1; cases h1
    · exact h1 hk), hr, h.hU, h.hR⟩
theorem Un.drewN (h : Un B0 w U R A c xs size s a f) (n : Nat) : Un B0 (w.drewN n) U R A c xs size s a f := ⟨h.blk, h.own, h.rd, h.hU, h.hR⟩
theorem Un.drew (h : Un B0 w U R A c xs size s a f) : Un B0 w.drew U R A c xs size s a f := ⟨h.blk, h.own, h.rd, h.hU, h.hR⟩
theorem Un.alloc (h : Un B0 w U R A c xs size s a f) (o : Obj) : Un B0 (w.alloc o) U R A c xs size s a f := ⟨blk_alloc h.blk o, h.own.alloc o, blk_alloc h.rd o, h.hU, h.hR⟩
end

def roomF (size : Int) (len : Nat) (f n : Int) : Int := if f = 0 ∧ size - len < n then 3 else f

set_option maxRecDepth 100000 in
set_option maxHeartbeats 1000000 in
theorem room_calls (B0 : Nat) (w : World) (U R : Nat) (A : Option Addr) (c : Nat) (xs : List Int) (size : Int) (s : ByteArray) (a : Nat) (f n : Int) (h : Un B0 w U R A c xs size s a f)
    (hs0 : 0 ≤ size) (hs1 : size ≤ 4294967296) (hl : (xs.length : Int) ≤ 4294967296) :
    Calls Try.prog 66 #[Ptr U, .int .i64 n] w fun e w' => e = .returned (.tuple #[]) ∧ Rd w' R s a (roomF size xs.length f n) ∧ Mod (· = R) w w' := by
  have c0 := h.c0
  have c1 := h.c1
  have c2 := h.c2
  have H := Aside0.mk h
  clear h
  have hw : IntKind.i64.wrap (size - (xs.length : Int)) = size - xs.length := by rw [IntKind.wrap_i64]; omega
  by_cases hn : size - xs.length < n
  · have hb : decide (size - (xs.length : Int) < n) = true := decide_eq_true hn
    by_cases hf : f = 0
    · subst hf
      have e : roomF size xs.length 0 n = 3 := by rw [roomF, if_pos ⟨rfl, hn⟩]
      rw [e]
      clear e
      go_enter Try.func66, Try.ntmps66
      go_wp2_with fail
      go_quiet (fail)
      go_wp2_with fail
      refine (fail0_calls _ R s a (H.out.rd.drewN _) _).mono ?_
      rintro e w1 ⟨rfl, rfl⟩
      go_wp2_with fail
      go_end0
      exact ⟨rfl, (H.out.rd.drewN _).set2 _, ((Mod.refl _ _).drewN _).setCell _ _ (.inl rfl)⟩
    · have e : roomF size xs.length f n = f := by rw [roomF, if_neg (by simp [hf])]
      rw [e]
      clear e
      have HF := Aside0.mk hf
      clear hf
      go_enter Try.func66, Try.ntmps66
      go_wp2_with fail
      go_quiet (fail)
      go_wp2_with fail
      refine (fail1_calls _ R s a f HF.out (H.out.rd.drewN _) _).mono ?_
      rintro e w1 ⟨rfl, rfl⟩
      go_wp2_with fail
      go_end0
      exact ⟨rfl, H.out.rd.drewN _, (Mod.refl _ _).drewN _⟩
  · have e : roomF size xs.length f n = f := by rw [roomF, if_neg (by simp [hn])]
    rw [e]
    clear e
    have hb : decide (size - (xs.length : Int) < n) = false := decide_eq_false hn
    go_enter Try.func66, Try.ntmps66
    go_wp2_with fail
    go_quiet (fail)
    go_wp2_with fail
    go_end0
    exact ⟨rfl, H.out.rd.drewN _, (Mod.refl _ _).drewN _⟩
/-- a little number -/
def leN : List Int → Int
  | [] => 0
  | b :: l => b + 256 * leN l

theorem leN_bound : ∀ (l : List Int), InByte l → 0 ≤ leN l ∧ leN l < 256 ^ l.length
  | [], _ => by simp [leN]
  | b :: l, h => by
    have hb := h b (List.mem_cons_self ..)
    have ih := leN_bound l (fun x hx => h x (List.mem_cons_of_mem _ hx))
    have hp : (256 : Int) ^ (l.length + 1) = 256 ^ l.length * 256 := Int.pow_succ ..
    simp only [leN, List.length_cons]
    omega

theorem i64_id {x : Int} (h0 : 0 ≤ x) (h1 : x < 2 ^ 63) : IntKind.i64.wrap x = x := by
  rw [IntKind.wrap_i64]
  have : (2 : Int) ^ 63 = 9223372036854775808 := by decide
  omega
theorem or_byte {m b : Int} (h0 : 0 ≤ m) (h1 : m < 4294967296) (b0 : 0 ≤ b) (b1 : b < 256) : bits BinOp.or IntKind.i64 (wrap64 (m * 256)) (wrap64 b) = b + 256 * m := by
  have e1 : wrap64 (m * 256) = m * 256 := by unfold wrap64; omega
  have e2 : wrap64 b = b := by unfold wrap64; omega
  rw [e1, e2, bits_join .i64 63 (by decide) (fun n h0 h1 => i64_id h0 h1) 8 (m * 256) b (by omega) (by show m * 256 % 256 = 0; omega) (by show m * 256 < 9223372036854775808; omega) b0 (by show b < 256; omega) (by show b < 9223372036854775808; omega)]
  omega

theorem drop_cons (r : ByteArray) (j : Nat) (h0 : 0 < j) (_hj : j ≤ r.size) (h : j - 1 < r.size) : (bytesOf r).drop (j - 1) = ((r[j - 1]'h).toNat : Int) :: (bytesOf r).drop j := by
  have hl : j - 1 < (bytesOf r).length := by rw [bytesOf_length]; omega
  rw [List.drop_eq_getElem_cons hl, show j - 1 + 1 = j by omega]
  congr 1
  rw [← bt_get r (j - 1) hl]
  simp [bt, h]

set_option maxRecDepth 100000 in
set_option maxHeartbeats 1000000 in
theorem little_calls (w : World) (R : Nat) (s : ByteArray) (a : Nat) (f : Int) (n : Nat) (h : Rd w R s a f) (ha : a ≤ s.size) (hs : s.size ≤ 9223372036854775807) (hn : n ≤ 4) :
    Calls Try.prog 60 #[Ptr R, .int .i64 n] w fun e w' => e = .returned (.int .i64 (leN (bytesOf (tk s a f n).1))) ∧ Rd w' R s (tk s a f n).2.1 (tk s a f n).2.2 ∧ Mod (· = R) w w' := by
  have ht := take_calls w R s a f n h ha hs
  obtain ⟨r, a2, f2, he⟩ : ∃ r a2 f2, tk s a f n = (r, a2, f2) := ⟨_, _, _, rfl⟩
  rw [he] at ht ⊢
  have hr : r.size ≤ 4 := by
    unfold tk at he
    split at he
    · simp only [Prod.mk.injEq] at he; rw [← he.1]; decide
    · split at he
      · simp only [Prod.mk.injEq] at he; rw [← he.1]; decide
      · split at he
        · simp only [Prod.mk.injEq] at he; rw [← he.1]; decide
        · simp only [Prod.mk.injEq] at he; rw [← he.1, ByteArray.size_extract]; omega
  have HT := Aside0.mk ht
  clear ht h he
  go_enter Try.func60, Try.ntmps60
  go_wp2_with fail
  refine HT.out.mono ?_
  rintro e w1 ⟨he, hr1, hm⟩
  obtain rfl : e = .returned (.string r) := he
  have HR := Aside0.mk hr1
  have HM := Aside0.mk hm
  clear hr1 hm
  go_wp2_with fail
  go_loopg [5, 7] r.size (fun kq v5 v7 wr => ∃ (j : Nat) (m : Int), v7 = .int .i64 ((j : Int) - 1) ∧ v5 = .int .i64 m ∧ j ≤ r.size ∧ Aside0 (kq = j) ∧ Aside0 (m = leN ((bytesOf r).drop j)) ∧ Aside0 (w1 = wr))
  case atStart => exact ⟨r.size, 0, by rfl, rfl, by omega, ⟨rfl⟩, ⟨by rw [List.drop_of_length_le (by rw [bytesOf_length]; omega)]; rfl⟩, ⟨rfl⟩⟩
  case round =>
    obtain ⟨j, m, rfl, rfl, hj, HK, HL, HW⟩ := hrel
    by_cases h0 : 0 < j
    · have hb : decide (0 ≤ (j : Int) - 1) = true := decide_eq_true (by omega)
      go_wp2_with fail
      go_roundg (j - 1)
      case measure => have := HK.out; omega
      case rel =>
        have hjr : j - 1 < r.size := by omega
        have e := drop_cons r j h0 hj hjr
        have hb := leN_bound ((bytesOf r).drop j) ((bytes_in r).drop j)
        have hlen : ((bytesOf r).drop j).length ≤ 3 := by rw [List.length_drop, bytesOf_length]; omega
        have hp : (256 : Int) ^ ((bytesOf r).drop j).length ≤ 256 ^ 3 := by
          have : (256 : Nat) ^ ((bytesOf r).drop j).length ≤ 256 ^ 3 := Nat.pow_le_pow_right (by decide) hlen
          exact_mod_cast this
        have hp3 : (256 : Int) ^ 3 = 16777216 := by decide
        have hbt := (r[j - 1]'hjr).toNat_lt
        rw [← HL.out] at hb
        refine ⟨j - 1, ((r[j - 1]'hjr).toNat : Int) + 256 * m, by (congr 1; omega), ?_, by omega, ⟨rfl⟩, ⟨by rw [e, leN, ← HL.out]⟩, HW⟩
        rw [or_byte hb.1 (by omega) (by omega) (by omega)]
    · have hb : decide (0 ≤ (j : Int) - 1) = false := decide_eq_false (by omega)
      go_wp2_with fail
      go_ret
      have hj0 : j = 0 := by omega
      refine ⟨?_, ?_⟩
      · rw [HL.out, hj0]; rfl
      · rw [← HW.out]; exact ⟨HR.out, HM.out⟩
end Go.Proofs.Ytpceignbgnekmaa.Sn
