/- show and Show of package item. -/
import Derived.Test.YtkdkdjhdoplicaaItW
import Derived.Test.YtkdkdjhdoplicaaItI
namespace Go.Proofs.Ytkdkdjhdoplicaa.It
open Go.RowKit Go.Proofs.YtkdkdjhdoplicaaW.PrintWords Go.Proofs.YtkdkdjhdoplicaaW.PrintLast Go.Proofs.YtkdkdjhdoplicaaW.PrintMore Go.Proofs.Ytkdkdjhdoplicaa.Md

theorem shws_snoc (f : Bool) (a : List S43) (x : S43) : shws f (a ++ [x]) = shws f a ++ ((if f = true ∧ a = [] then [] else [32]) ++ shw x) := by
  induction a generalizing f with
  | nil => cases f <;> simp [shws]
  | cons y ys ih => simp [shws, ih]
theorem shws_append (f : Bool) (a b : List S43) : ∃ r, shws f (a ++ b) = shws f a ++ r := by
  induction a generalizing f with
  | nil => exact ⟨shws f b, by simp [shws]⟩
  | cons y ys ih =>
    obtain ⟨r, hr⟩ := ih false
    exact ⟨r, by simp [shws, hr]⟩
theorem shws_take (f : Bool) (s : List S43) (i : Nat) : (shws f (s.take i)).length ≤ (shws f s).length := by
  obtain ⟨r, hr⟩ := shws_append f (s.take i) (s.drop i)
  rw [List.take_append_drop] at hr
  rw [hr, List.length_append]
  omega

/-- the builder's bytes; what was at w, and is not the builder's, is as it was -/
structure St (w0 w W : World) (b : Nat) (l : List UInt8) : Prop where
  bd : Bd w0.heap.size b l W
  below : Below w0.heap.size w0 W
  keeps : Keeps b w W
theorem St.alloc {w0 w W : World} {b : Nat} {l : List UInt8} (h : St w0 w W b l) (o : Obj) : St w0 w (W.alloc o) b l := ⟨h.bd.alloc o, below_alloc h.below o, h.keeps.alloc o⟩
theorem St.wrote {w0 w W W' : World} {b : Nat} {l l' : List UInt8} (h : St w0 w W b l) (h1 : Bd w0.heap.size b l' W') (h2 : Below w0.heap.size W W') (h3 : Keeps b W W') : St w0 w W' b l' := ⟨h1, h.below.trans h2, h.keeps.trans h3⟩
theorem keeps_blk {b g : Nat} {w w' : World} {cs : Array Value} (h : Keeps b w w') (hb : w.heap[g]? = some (.cells cs 43 (0, 0))) (hg : g ≠ b) : w'.heap[g]? = some (.cells cs 43 (0, 0)) :=
  h g _ hb (by simpa using hg) (fun c fz e => by injection e with _ e2; cases e2)
theorem Bd.lt {B b : Nat} {l : List UInt8} {w : World} (h : Bd B b l w) : b < w.heap.size := by
  rcases h with h | h <;> exact h.lt
structure Shown (w0 : World) (b : Nat) (l : List UInt8) (w : World) (e : Ending) (w' : World) : Prop where
  ret : e = .returned (.tuple #[])
  st : St w0 w w' b l
theorem St.self {w0 w W : World} {b : Nat} {l : List UInt8} (h : St w0 w W b l) : St w0 W W b l := ⟨h.bd, h.below, Go.Lib.OthersKept.refl _ _ _⟩
theorem St.then_ {w0 w W W' : World} {b : Nat} {l l' : List UInt8} (h : St w0 w W b l) (k : St w0 W W' b l') : St w0 w W' b l' := ⟨k.bd, k.below, h.keeps.trans k.keeps⟩
theorem writeSt {w0 w W : World} {b : Nat} {l : List UInt8} (h : St w0 w W b l) (c : UInt8) (hl : l.length ≤ 100000000) : Calls Try.prog 49 #[Ptr b, .int .u8 (c.toNat : Int)] W fun e W' => e = .returned .nilIface ∧ St w0 w W' b (l ++ [c]) ∧ Keeps b W W' := by
  refine (writeByte w0.heap.size b l c W h.bd h.below.size hl).mono ?_
  rintro e W' ⟨rfl, k1, k2, k3⟩
  exact ⟨rfl, h.wrote k1 k2 k3, k3⟩
theorem dig_at (q : Nat) (hq : q < 16) : ∀ h : q < (⟨#[48, 49, 50, 51, 52, 53, 54, 55, 56, 57, 97, 98, 99, 100, 101, 102]⟩ : ByteArray).size, ((((⟨#[48, 49, 50, 51, 52, 53, 54, 55, 56, 57, 97, 98, 99, 100, 101, 102]⟩ : ByteArray)[q]'h).toNat : Nat) : Int) = ((dig q).toNat : Int) := by
  intro h
  have : q = 0 ∨ q = 1 ∨ q = 2 ∨ q = 3 ∨ q = 4 ∨ q = 5 ∨ q = 6 ∨ q = 7 ∨ q = 8 ∨ q = 9 ∨ q = 10 ∨ q = 11 ∨ q = 12 ∨ q = 13 ∨ q = 14 ∨ q = 15 := by omega
  rcases this with rfl | rfl | rfl | rfl | rfl | rfl | rfl | rfl | rfl | rfl | rfl | rfl | rfl | rfl | rfl | rfl <;> rfl

set_option maxRecDepth 100000 in
set_option maxHeartbeats 2000000 in
theorem show_calls (n : Nat) : ∀ (x : S43), cnt x < n → ∀ (A : Option Addr) (c2 : Nat) (w0 w : World) (b : Nat) (l : List UInt8), Kd.C k43 w0 A x.f2.length x.f2 → x.f2.length ≤ c2 → St w0 w w b l → l.length + (shw x).length ≤ 10000000 → cnt x ≤ 10000000 →
    Calls Try.prog 44 #[Ptr b, .agg #[.string x.f0, .bool x.f1, .slice A x.f2.length c2]] w (Shown w0 b (l ++ shw x) w) := by
  induction n with
  | zero => intro x h; omega
  | succ n ih =>
  rintro ⟨t, f, s⟩ hsz A c2 w0 w b l hr hl hst hlen hcn
  have HR := Aside0.mk hr
  have HL := Aside0.mk hl
  have HST := Aside0.mk hst
  have hw0 := hst.below.size
  have HNB : Aside0 (w.heap.size ≠ b) := ⟨Nat.ne_of_gt hst.bd.lt⟩
  clear hr hl hst
  cases f
  · by_cases h3 : t.size = 0
    · obtain rfl : t = ⟨#[]⟩ := by
        cases t with
        | mk d => simp only [ByteArray.size] at h3; rw [Array.eq_empty_of_size_eq_zero h3]
      have hsh : shw ⟨⟨#[]⟩, false, s⟩ = [45] := by rw [shw, if_neg (by simp), if_pos h3]
      rw [hsh] at hlen ⊢
      have hl1 : l.length + (⟨#[45]⟩ : ByteArray).size ≤ 100000000 := by simp at hlen; show l.length + 1 ≤ _; omega
      clear hsh h3
      go_enter Try.func44, Try.ntmps44
      go_wp2_with fail
      refine (writeString w0.heap.size b l ⟨#[45]⟩ _ (HST.out.bd.alloc _) (by rw [World.size_alloc]; omega) hl1).mono ?_
      rintro e w5 ⟨rfl, k1, k2, k3⟩
      have HS5 := Aside0.mk ((HST.out.alloc (.cells #[.string ⟨#[]⟩, .bool false, .slice A s.length c2] 43)).wrote k1 k2 k3)
      clear k1 k2 k3
      go_wp2_with fail
      exact bodyPost_ret (v := .tuple #[]) (by simp [results, Try.results44, go_sem]) rfl ⟨rfl, HS5.out⟩
    · have te := toList_ne h3
      have tf : t.toList.isEmpty = false := by cases e : t.toList with | nil => exact absurd e te | cons => rfl
      have HSH : Aside0 (shw ⟨t, false, s⟩ = hexs t.data.toList) := ⟨by rw [shw, if_neg (by simp), if_neg h3]⟩
      have htz : 2 * t.size ≤ 10000000 := by
        have hq : t.data.toList.length = t.size := by rw [Array.length_toList]; rfl
        rw [HSH.out, hexs_len, hq] at hlen
        omega
      have hln : l.length + 2 * t.size ≤ 10000000 := by
        have hq : t.data.toList.length = t.size := by rw [Array.length_toList]; rfl
        rw [HSH.out, hexs_len, hq] at hlen
        exact hlen
      rw [HSH.out]
      clear hlen HSH h3
      go_enter Try.func44, Try.ntmps44
      go_wp2_with fail
      go_loopg [10] t.size (fun kq v10 wr => ∃ i : Nat, v10 = .int .i64 i ∧ i ≤ t.size ∧ Aside0 (kq = t.size - i) ∧ Aside0 (St w0 w wr b (l ++ hexs (t.data.toList.take i))) ∧ Aside0 (wr.heap[w.heap.size]? = some (.cells #[.string t, .bool false, .slice A s.length c2] 43 (0, 0))))
      case atStart => exact ⟨0, by go_num, Nat.zero_le _, ⟨rfl⟩, ⟨by simpa [hexs] using HST.out.alloc _⟩, ⟨blk_new _ _⟩⟩
      case round =>
        obtain ⟨i, rfl, hi, HK, HS, HBX⟩ := hrel
        by_cases hlt : i < t.size
        · have hltb : decide (i < t.size) = true := decide_eq_true hlt
          have hlt2 : i < t.data.toList.length := by rw [Array.length_toList]; exact hlt
          obtain ⟨c, hc⟩ : ∃ c : UInt8, t.data.toList[i] = c := ⟨_, rfl⟩
          have hx : ∀ h : i < t.size, ((t[i]'h).toNat : Int) = (c.toNat : Int) := fun h => by rw [← hc]; rfl
          have hcn2 : c.toNat < 256 := c.toNat_lt
          have htk : hexs (t.data.toList.take (i + 1)) = hexs (t.data.toList.take i) ++ [dig (c.toNat / 16)] ++ [dig (c.toNat % 16)] := by
            rw [List.take_succ_eq_append_getElem hlt2, hexs_append, hc]
            simp [hexs]
          have htl : (hexs (t.data.toList.take i)).length ≤ 2 * t.size := by
            rw [hexs_len, List.length_take, Array.length_toList]
            have : t.data.size = t.size := rfl
            omega
          have HTK := Aside0.mk htk
          obtain ⟨cn, hcn3⟩ : ∃ cn : Nat, c.toNat = cn := ⟨_, rfl⟩
          rw [hcn3] at hx hcn2 HTK
          obtain ⟨q, hq⟩ : ∃ q : Nat, cn / 16 = q := ⟨_, rfl⟩
          obtain ⟨r, hr⟩ : ∃ r : Nat, cn % 16 = r := ⟨_, rfl⟩
          have hq1 : q < 16 := by omega
          have hr1 : r < 16 := by omega
          have e1 : (cn : Int).tdiv 16 = (q : Int) := by rw [← hq]; rfl
          have e2 : (cn : Int).tmod 16 = (r : Int) := by rw [← hr]; rfl
          have e3 : (cn : Int) / 16 = (q : Int) := by omega
          have e4 : (cn : Int) % 16 = (r : Int) := by omega
          have d1 := dig_at q hq1
          have d2 := dig_at r hr1
          rw [hq, hr] at HTK
          have b0 := blk_at_cells (i := 0) HBX.out rfl
          clear htk hc hlt2 hq hr hcn3
          go_wp2_with fail
          refine (writeSt HS.out (dig q) (by rw [List.length_append]; omega)).mono ?_
          rintro e w5 ⟨rfl, k1, k2⟩
          have HS5 := Aside0.mk k1
          have HBX5 := Aside0.mk (keeps_blk k2 HBX.out HNB.out)
          have b5 := blk_at_cells (i := 0) HBX5.out rfl
          clear k1 k2 HS HBX b0
          go_wp2_with fail
          refine (writeSt HS5.out (dig r) (by rw [List.length_append, List.length_append]; simp only [List.length_cons, List.length_nil]; omega)).mono ?_
          rintro e w6 ⟨rfl, k1, k2⟩
          have HS6 := Aside0.mk k1
          have HBX6 := Aside0.mk (keeps_blk k2 HBX5.out HNB.out)
          clear k1 k2 HS5 HBX5 b5
          go_wp2_with fail
          go_roundg (t.size - (i + 1))
          case measure => have := HK.out; omega
          case rel => exact ⟨i + 1, by go_num, by omega, ⟨rfl⟩, ⟨by rw [HTK.out]; simpa using HS6.out⟩, HBX6⟩
        · have hltb : decide (i < t.size) = false := decide_eq_false hlt
          have hq : t.data.toList.length = t.size := by rw [Array.length_toList]; rfl
          have HS7 : Aside0 (St w0 w ‹World› b (l ++ hexs t.data.toList)) := ⟨by have := HS.out; rwa [List.take_of_length_le (by omega)] at this⟩
          clear hq
          go_wp2_with fail
          exact bodyPost_ret (v := .tuple #[]) (by simp [results, Try.results44, go_sem]) rfl ⟨rfl, HS7.out⟩
  · have HSH : Aside0 (shw ⟨t, true, s⟩ = 40 :: (shws true s ++ [41])) := ⟨by rw [shw, if_pos rfl]⟩
    rw [HSH.out] at hlen
    simp only [List.length_cons, List.length_append, List.length_nil] at hlen
    have hcn1 : s.length ≤ 10000000 := by
      have := cnts_len s
      simp only [cnt] at hcn
      omega
    rw [HSH.out]
    go_enter Try.func44, Try.ntmps44
    go_wp2_with fail
    refine (writeSt (HST.out.alloc _) 40 (by omega)).mono ?_
    rintro e w1 ⟨rfl, k1, k2⟩
    have HS1 := Aside0.mk k1
    have HBX1 := Aside0.mk (keeps_blk (cs := #[.string t, .bool true, .slice A s.length c2]) k2 (blk_new w _) HNB.out)
    have b1 := blk_at_cells (i := 2) HBX1.out rfl
    clear k1 k2
    go_wp2_with fail
    go_loopg [38] s.length (fun kq v38 wr => ∃ i : Nat, v38 = .int .i64 i ∧ i ≤ s.length ∧ Aside0 (kq = s.length - i) ∧ Aside0 (St w0 w wr b (l ++ 40 :: shws true (s.take i))))
    case atStart => exact ⟨0, by go_num, Nat.zero_le _, ⟨rfl⟩, ⟨by simpa [shws] using HS1.out⟩⟩
    case round =>
      clear b1 HBX1 HS1
      obtain ⟨i, rfl, hi, HK, HS⟩ := hrel
      by_cases hlt : i < s.length
      · have hltb : decide (i < s.length) = true := decide_eq_true hlt
        have p1 : (0 : Int) ≤ (i : Int) := by omega
        have q1 : (i : Int) < (s.length : Nat) := by omega
        obtain ⟨ad, A2, cc2, e1, hx0, hx1, hx2, hl2, hi2⟩ := at_T43 HR.out i p1 q1
        cases e1
        replace hx0 := (HS.out.below.cell (World.block_lt_of_cell? w0 _ hx0)).trans hx0
        replace hx1 := (HS.out.below.cell (World.block_lt_of_cell? w0 _ hx1)).trans hx1
        replace hx2 := (HS.out.below.cell (World.block_lt_of_cell? w0 _ hx2)).trans hx2
        have hy : rd_T43 s i = s[i] := by simp [rd_T43, List.getD_eq_getElem?_getD, hlt]
        have hcs : cnt s[i] < n ∧ cnt s[i] ≤ 10000000 := by have := cnt_sub (x := ⟨t, true, s⟩) hlt; simp only at this; omega
        obtain ⟨y, hye⟩ : ∃ y, rd_T43 s i = y := ⟨_, rfl⟩
        rw [hye] at hx0 hx1 hx2 hl2 hi2
        rw [Int.toNat_natCast] at hx0 hx1 hx2
        rw [← hy, hye] at hcs
        have htk : s.take (i + 1) = s.take i ++ [y] := by rw [List.take_succ_eq_append_getElem hlt, ← hy, hye]
        have HT2 : Aside0 (shws true (s.take (i + 1)) = shws true (s.take i) ++ ((if i = 0 then [] else [32]) ++ shw y)) := ⟨by
          rw [htk, shws_snoc]
          congr 2
          by_cases h0 : i = 0
          · subst h0; simp
          · rw [if_neg h0, if_neg]
            rintro ⟨_, h⟩
            have := congrArg List.length h
            rw [List.length_take] at this
            simp only [List.length_nil] at this
            omega⟩
        have hl3 := shws_take true s (i + 1)
        rw [HT2.out, List.length_append, List.length_append] at hl3
        have HI2 := Aside0.mk hi2
        have HL2 := Aside0.mk hl2
        have HIH : Aside0 (∀ W l', St w0 W W b l' → l'.length + (shw y).length ≤ 10000000 → Calls Try.prog 44 #[Ptr b, .agg #[.string y.f0, .bool y.f1, .slice A2 y.f2.length cc2]] W (Shown w0 b (l' ++ shw y) W)) := ⟨fun W l' hW hl' => ih y hcs.1 A2 cc2 w0 W b l' HI2.out HL2.out hW hl' hcs.2⟩
        have hbl := HS.out.bd.lt
        clear hi2 hl2 hy htk hye hcs
        replace p1 := eq_true p1
        replace q1 := eq_true q1
        by_cases h0 : i = 0
        · have h0b : decide (0 < i) = false := decide_eq_false (by omega)
          have HT3 : Aside0 (shws true (s.take (i + 1)) = shw y) := ⟨by rw [HT2.out, if_pos h0, h0]; simp [shws]⟩
          have HS3 : Aside0 (St w0 w ‹World› b (l ++ [40])) := ⟨by have := HS.out; rw [h0] at this; simpa [shws] using this⟩
          rw [if_pos h0] at hl3
          have hl4 : l.length + 1 + (shw y).length ≤ 10000000 := by omega
          clear HT2 HS h0 hl3
          go_wp2_with fail
          refine (HIH.out _ _ (HS3.out.alloc _).self (by simp only [List.length_append, List.length_cons, List.length_nil]; omega)).mono ?_
          rintro e w5 ⟨rfl, k1⟩
          have HS5 := Aside0.mk ((HS3.out.alloc (.cells #[.string y.f0, .bool y.f1, .slice A2 y.f2.length cc2] 43)).then_ k1)
          clear k1 HS3
          go_wp2_with fail
          go_roundg (s.length - (i + 1))
          case measure => have := HK.out; omega
          case rel => exact ⟨i + 1, by go_num, by omega, ⟨rfl⟩, ⟨by rw [HT3.out]; simpa using HS5.out⟩⟩
        · have h0b : decide (0 < i) = true := decide_eq_true (by omega)
          have HT3 : Aside0 (shws true (s.take (i + 1)) = shws true (s.take i) ++ [32] ++ shw y) := ⟨by rw [HT2.out, if_neg h0]; simp⟩
          rw [if_neg h0] at hl3
          simp only [List.length_cons, List.length_nil] at hl3
          clear HT2
          go_wp2_with fail
          refine (writeSt (HS.out.alloc _) 32 (by simp only [List.length_append, List.length_cons]; omega)).mono ?_
          rintro e w4 ⟨rfl, k1, k2⟩
          have HS4 := Aside0.mk k1
          have hb4 := keeps_blk (cs := #[.string y.f0, .bool y.f1, .slice A2 y.f2.length cc2]) k2 (blk_new _ _) (Nat.ne_of_gt hbl)
          have b0 := blk_at_cells (i := 0) hb4 rfl
          have b1 := blk_at_cells (i := 1) hb4 rfl
          have b2 := blk_at_cells (i := 2) hb4 rfl
          clear k1 k2 hb4 HS
          go_wp2_with fail
          refine (HIH.out _ _ HS4.out.self (by simp only [List.length_append, List.length_cons, List.length_nil]; omega)).mono ?_
          rintro e w5 ⟨rfl, k1⟩
          have HS5 := Aside0.mk (HS4.out.then_ k1)
          clear k1 HS4 b0 b1 b2
          go_wp2_with fail
          go_roundg (s.length - (i + 1))
          case measure => have := HK.out; omega
          case rel => exact ⟨i + 1, by go_num, by omega, ⟨rfl⟩, ⟨by rw [HT3.out]; simpa using HS5.out⟩⟩
      · have hltb : decide (i < s.length) = false := decide_eq_false hlt
        have HS7 : Aside0 (St w0 w ‹World› b (l ++ 40 :: shws true s)) := ⟨by have := HS.out; rwa [List.take_of_length_le (by omega)] at this⟩
        go_wp2_with fail
        refine (writeSt HS7.out 41 (by simp only [List.length_append, List.length_cons]; omega)).mono ?_
        rintro e w5 ⟨rfl, k1, _⟩
        have HS8 := Aside0.mk k1
        clear k1
        go_wp2_with fail
        exact bodyPost_ret (v := .tuple #[]) (by simp [results, Try.results44, go_sem]) rfl ⟨rfl, by simpa using HS8.out⟩

set_option maxRecDepth 100000 in
set_option maxHeartbeats 2000000 in
theorem Show_calls (x : S43) (A : Option Addr) (c2 : Nat) (w : World) (hr : Kd.C k43 w A x.f2.length x.f2) (hl : x.f2.length ≤ c2) (hs : (shw x).length ≤ 10000000) :
    Calls Try.prog 27 #[.agg #[.string x.f0, .bool x.f1, .slice A x.f2.length c2]] w fun e w' => e = .returned (if may x = true then .tuple #[.string ⟨(shw x).toArray⟩, .int .i64 0] else .tuple #[.string ⟨#[]⟩, .int .i64 1]) ∧ Below w.heap.size w w' := by
  have HM : Aside0 (∀ o, Calls Try.prog 42 #[.agg #[.string x.f0, .bool x.f1, .slice A x.f2.length c2]] (w.alloc o) fun e w' => e = .returned (.bool (may x)) ∧ Below (w.heap.size + 1) (w.alloc o) w') :=
    ⟨fun o => by have := may_calls x A c2 (w.alloc o) (Kd.C_below hr (below_alloc (Below.refl _ _) o)) hl; rwa [World.size_alloc] at this⟩
  have HR := Aside0.mk hr
  have HL := Aside0.mk hl
  obtain ⟨b, hb⟩ : ∃ b, may x = b := ⟨_, rfl⟩
  have HC : Aside0 (b = true → cnt x ≤ 1024) := ⟨fun e => by rw [e] at hb; simp only [may, Bool.and_eq_true, decide_eq_true_eq] at hb; exact hb.2⟩
  rw [hb] at HM ⊢
  clear hr hl hb
  go_enter Try.func27, Try.ntmps27
  go_wp2_with fail
  refine (HM.out _).mono ?_
  rintro e w5 ⟨rfl, hb⟩
  have HB : Aside0 (Below w.heap.size w w5) := ⟨(below_alloc (Below.refl _ _) _).trans (hb.mono (by omega))⟩
  have hb5 := (hb.block w.heap.size (by omega)).trans (blk_new w _)
  have b0 : w5.cell? ⟨w.heap.size, 0, none⟩ = some (.string x.f0) := blk_at_cells (i := 0) hb5 rfl
  have b1 : w5.cell? ⟨w.heap.size, 1, none⟩ = some (.bool x.f1) := blk_at_cells (i := 1) hb5 rfl
  have b2 : w5.cell? ⟨w.heap.size, 2, none⟩ = some (.slice A x.f2.length c2) := blk_at_cells (i := 2) hb5 rfl
  have hz := hb.size
  rw [World.size_alloc] at hz
  have hz2 : w.heap.size < w5.heap.size := by omega
  clear hb hb5
  cases b
  · go_wp2_with fail
    go_ret2
    exact ⟨rfl, HB.out⟩
  · have HS0 : Aside0 (St w (w5.alloc (.cells #[.pointer none, .slice none 0 0] 65)) (w5.alloc (.cells #[.pointer none, .slice none 0 0] 65)) w5.heap.size []) := ⟨⟨Bd.new _ _ (by omega), below_alloc HB.out _, Go.Lib.OthersKept.refl _ _ _⟩⟩
    go_wp2_with fail
    refine (show_calls (cnt x + 1) x (by omega) A c2 w _ _ [] HR.out HL.out HS0.out (by simpa using hs) (by have := HC.out (by simp); omega)).mono ?_
    rintro e w6 ⟨rfl, k1⟩
    have HS1 := Aside0.mk k1
    clear k1 HS0 b0 b1 b2
    go_wp2_with fail
    refine (stringOf w.heap.size _ _ _ HS1.out.bd HS1.out.below.size).mono ?_
    rintro e w7 ⟨rfl, k1, k2, k3⟩
    have HB7 := Aside0.mk (HS1.out.below.trans k2)
    clear k1 k2 k3 HS1
    go_wp2_with fail
    go_ret2
    exact ⟨by simp, HB7.out⟩
end Go.Proofs.Ytkdkdjhdoplicaa.It
