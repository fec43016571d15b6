/- The law of one literal, walked. -/
import Derived.Test.YtpceignbgnekmaaSnN
import Derived.Test.YtpceignbgnekmaaLebPut
namespace Go.Proofs.Ytpceignbgnekmaa.Sn
open Go.RowKit Go.Proofs.YtpceignbgnekmaaW.PrintWords Go.Proofs.Ytpceignbgnekmaa.By Go.Proofs.Ytpceignbgnekmaa.Md Go.Proofs.Ytpceignbgnekmaa.Cur Go.Proofs.Ytpceignbgnekmaa.Next Go.Proofs.Ytpceignbgnekmaa.LebPut

theorem conv2 (x y : Int) (W : World) : (convert 32 9 (.slice (some ⟨W.heap.size, 0, none⟩) 2 2)).run Try.prog (W.alloc (.cells #[.int .u8 x, .int .u8 y] 5)) = .ok (.string (strOfNums [x, y])) (W.alloc (.cells #[.int .u8 x, .int .u8 y] 5)) := by
  have h := own_lit W W.heap.size 5 .u8 [x, y] (Nat.le_refl _) (by simp)
  exact own_string (P := Try.prog) Try.underlying32 Try.underlying5 Try.underlying9 h
theorem conv3 (x y z : Int) (W : World) : (convert 32 9 (.slice (some ⟨W.heap.size, 0, none⟩) 3 3)).run Try.prog (W.alloc (.cells #[.int .u8 x, .int .u8 y, .int .u8 z] 5)) = .ok (.string (strOfNums [x, y, z])) (W.alloc (.cells #[.int .u8 x, .int .u8 y, .int .u8 z] 5)) := by
  have h := own_lit W W.heap.size 5 .u8 [x, y, z] (Nat.le_refl _) (by simp)
  exact own_string (P := Try.prog) Try.underlying32 Try.underlying5 Try.underlying9 h

theorem leN_zeros (x : Int) : ∀ k, leN (x :: List.replicate k 0) = x := by
  have h : ∀ k, leN (List.replicate k 0) = 0 := by
    intro k
    induction k with
    | zero => rfl
    | succ k ih => rw [List.replicate_succ, leN, ih]; rfl
  intro k
  rw [leN, h]
  omega
/-- one literal, whatever its head: the block unpacks to it -/
theorem plain_out (s : ByteArray) (hs1 : 1 ≤ s.size) (hs2 : s.size ≤ 250) (hb : List Int) (hbin : InByte hb) (v : Nat) (hv : v ≤ 63) (hh : hd v 0 = hb.length) (h0 : hb[0]? = some (4 * (v : Int)))
    (hl : (if 60 ≤ v then leN (hb.drop 1) + 1 else (v : Int) + 1) = s.size) (most : Int) (hm : (s.size : Int) ≤ most) :
    outF (strOfNums (if 128 ≤ s.size then [(s.size : Int), 1] else [(s.size : Int)]) ++ strOfNums hb ++ s) most = (s, 0) := by
  obtain ⟨sz, hsz⟩ : ∃ sz, (if 128 ≤ s.size then [(s.size : Int), 1] else [(s.size : Int)]) = sz := ⟨_, rfl⟩
  rw [hsz]
  have hsin : InByte sz := by
    rw [← hsz]
    split
    · exact InByte.cons ⟨by omega, by omega⟩ (InByte.cons ⟨by omega, by omega⟩ InByte.nil)
    · exact InByte.cons ⟨by omega, by omega⟩ InByte.nil
  have hbl : bytesOf (strOfNums sz ++ strOfNums hb ++ s) = sz ++ (hb ++ bytesOf s) := by rw [bytes_append, bytes_append, bytes_str hsin, bytes_str hbin, List.append_assoc]
  have ht : bytesOf (strOfNums hb ++ s) = [] ++ (hb ++ (bytesOf s ++ [])) := by rw [bytes_append, bytes_str hbin, List.append_nil, List.nil_append]
  have htz : (strOfNums hb ++ s).size = hb.length + s.size := by rw [ByteArray.size_append, strOfNums_size]
  have hz : szF (strOfNums sz ++ strOfNums hb ++ s) = ((s.size : Int), ((sz.length : Nat) : Int), 0) := by
    rw [← hsz] at hbl ⊢
    split at hbl
    · rename_i h128
      rw [if_pos h128]
      exact szF_two hbl (by omega)
    · rename_i h128
      rw [if_neg h128]
      exact szF_one hbl (by omega)
  have hr := run_lit (n := (s.size : Int)) (fuel := (strOfNums hb ++ s).size) (xs := []) (a := 0) (v := v) (m := s.size) ht rfl hv hh h0 hl (bytesOf_length s) (by simp)
  have he := run_end (n := (s.size : Int)) (t := strOfNums hb ++ s) (fuel := (strOfNums hb ++ s).size) (xs := [] ++ bytesOf s) (a := 0 + hb.length + s.size) (by omega)
  rw [he] at hr
  have := out_of (most := most) (t := strOfNums hb ++ s) (l := sz) hz hm (by rw [hbl, ht, List.nil_append, List.append_nil]) rfl hr (by rw [List.nil_append, bytesOf_length])
  rw [this, List.nil_append, str_bytes]

set_option maxRecDepth 100000 in
set_option maxHeartbeats 2000000 in
theorem plain (s : ByteArray) (long : Int) (hs : s.size ≤ 140737488351232) (hw : (Lit.int .u8 long).wf = true) (w : World) : Calls Try.prog 10 #[.string s, .int .u8 long] w fun e w' => e = .returned (.bool true) ∧ Below w.heap.size w w' := by
  have HB := Aside0.mk (Below.refl w.heap.size w)
  obtain ⟨x0, x1⟩ : 0 ≤ long ∧ long ≤ 255 := by simpa [Lit.wf, IntKind.min, IntKind.max, IntKind.signed, IntKind.bits] using hw
  have hcs : ((s.size : Int) == 0) = true ∨ (((s.size : Int) == 0) = false ∧ decide (250 < (s.size : Int)) = true) ∨ (((s.size : Int) == 0) = false ∧ decide (250 < (s.size : Int)) = false) := by
    by_cases h1 : s.size = 0
    · exact .inl (beq_iff_eq.2 (by omega))
    · have h2 : ((s.size : Int) == 0) = false := beq_eq_false_iff_ne.mpr (by omega)
      by_cases h3 : 250 < s.size
      · exact .inr (.inl ⟨h2, decide_eq_true (by omega)⟩)
      · exact .inr (.inr ⟨h2, decide_eq_false (by omega)⟩)
  rcases hcs with h1 | ⟨h1, h2⟩ | ⟨h1, h2⟩
  · go_enter Try.func10, Try.ntmps10
    go_wp2_with fail
    refine (alive _).mono ?_
    rintro e w1 ⟨rfl, hb⟩
    have HB1 := Aside0.mk (below_step HB.out hb)
    clear hb HB
    go_wp2_with fail
    go_ret
    exact ⟨rfl, HB1.out⟩
  · go_enter Try.func10, Try.ntmps10
    go_wp2_with fail
    refine (alive _).mono ?_
    rintro e w1 ⟨rfl, hb⟩
    have HB1 := Aside0.mk (below_step HB.out hb)
    clear hb HB
    go_wp2_with fail
    go_ret
    exact ⟨rfl, HB1.out⟩
  · have hs1 : 1 ≤ s.size := by have := beq_eq_false_iff_ne.mp h1; omega
    have hs2 : s.size ≤ 250 := by have := of_decide_eq_false h2; omega
    obtain ⟨nn, hnn⟩ : ∃ nn : Int, (s.size : Int) - 1 = nn := ⟨_, rfl⟩
    have hn0 : 0 ≤ nn := by omega
    have hn1 : nn < 250 := by omega
    obtain ⟨kq, hkq⟩ : ∃ kq : Int, long % 5 = kq := ⟨_, rfl⟩
    have hk0 : 0 ≤ kq := by omega
    have hk1 : kq ≤ 4 := by omega
    by_cases hA : kq = 0 ∧ nn < 60
    · have t1 : decide (0 < kq) = false := decide_eq_false (by omega)
      have t2 : decide (60 ≤ nn) = false := decide_eq_false (by omega)
      obtain ⟨v, rfl⟩ := Int.eq_ofNat_of_zero_le hn0
      have hbin : InByte [4 * (v : Int)] := InByte.cons ⟨by omega, by omega⟩ InByte.nil
      have hsp := plain_out s hs1 hs2 [4 * (v : Int)] hbin v (by omega) (by unfold hd; rw [if_pos rfl, if_neg (by omega)]; rfl) rfl (by rw [if_neg (by omega)]; omega) 250 (by omega)
      have hch := conv1 (4 * (v : Int))
      obtain ⟨h0s, hh0⟩ : ∃ h0s, strOfNums [4 * (v : Int)] = h0s := ⟨_, rfl⟩
      have hhl : h0s.size = 1 := by rw [← hh0, strOfNums_size]; rfl
      rw [hh0] at hch
      rw [hh0] at hsp
      by_cases hL : 128 ≤ s.size
      · omega
      · have t3 : decide (128 ≤ (s.size : Int)) = false := decide_eq_false (by omega)
        rw [if_neg hL] at hsp
        have hcz := conv1 (s.size : Int)
        obtain ⟨zs, hzs⟩ : ∃ zs, strOfNums [(s.size : Int)] = zs := ⟨_, rfl⟩
        have hzl : zs.size = 1 := by rw [← hzs, strOfNums_size]; rfl
        rw [hzs] at hsp hcz
        have hq1 : zs.size + h0s.size ≤ 9223372036854775807 := by omega
        have hq2 : (zs ++ h0s).size + s.size ≤ 9223372036854775807 := by rw [ByteArray.size_append]; omega
        have hun := unpack_nil (zs ++ h0s ++ s) (by rw [ByteArray.size_append, ByteArray.size_append]; omega) 250
        rw [hsp] at hun
        have HU := Aside0.mk hun
        clear hun hsp hzs hh0 hzl hhl
        have hcz1 : ∀ (W : World) (o : Obj), (convert 32 9 (.slice (some ⟨W.heap.size + 1, 0, none⟩) 1 1)).run Try.prog ((W.alloc o).alloc (.cells #[.int .u8 (s.size : Int)] 5)) = .ok (.string zs) ((W.alloc o).alloc (.cells #[.int .u8 (s.size : Int)] 5)) := fun W o => by have := hcz (W.alloc o); simpa using this
        go_enter Try.func10, Try.ntmps10
        go_wp2_with fail
        refine (alive _).mono ?_
        rintro e w1 ⟨rfl, hb⟩
        have HB1 := Aside0.mk (below_step HB.out hb)
        clear hb HB
        go_wp2_with fail
        refine (HU.out _).mono ?_
        rintro e w5 ⟨rfl, hb5⟩
        have HB5 : Aside0 (Below w.heap.size w w5) := ⟨below_step (by repeat (first | (with_reducible first | exact HB1.out | apply below_alloc | apply pw_below_drewN | apply below_drew1) | exact HB1.out)) hb5⟩
        clear hb5
        go_wp2_with fail
        go_ret
        exact ⟨rfl, HB5.out⟩
    · have t1' : decide (0 < kq) = true ∨ (decide (0 < kq) = false ∧ decide (60 ≤ nn) = true) := by
        by_cases h : 0 < kq
        · exact .inl (decide_eq_true h)
        · exact .inr ⟨decide_eq_false h, decide_eq_true (by omega)⟩
      obtain ⟨kk, hkk⟩ : ∃ kk : Nat, (if kq < 1 then 1 else kq) = (kk : Int) := by
        split
        · exact ⟨1, rfl⟩
        · exact ⟨kq.toNat, by omega⟩
      have hkk1 : 1 ≤ kk ∧ kk ≤ 4 := by split at hkk <;> omega
      obtain ⟨vv, hvv⟩ : ∃ vv : Nat, 59 + kk = vv := ⟨_, rfl⟩
      have hkv : 59 + (kk : Int) = (vv : Int) := by omega
      have hbin : InByte (4 * (vv : Int) :: nn :: List.replicate (kk - 1) 0) := InByte.cons ⟨by omega, by omega⟩ (InByte.cons ⟨by omega, by omega⟩ (fun x hx => by rw [(List.mem_replicate.1 hx).2]; decide))
      have hlen : (4 * (vv : Int) :: nn :: List.replicate (kk - 1) 0).length = kk + 1 := by simp; omega
      have hsp := plain_out s hs1 hs2 (4 * (vv : Int) :: nn :: List.replicate (kk - 1) 0) hbin vv (by omega) (by rw [hlen]; unfold hd; rw [if_pos rfl, if_pos (by omega)]; omega) rfl (by rw [if_pos (by omega), List.drop_one, List.tail_cons, leN_zeros]; omega) 250 (by omega)
      obtain ⟨h0s, hh0⟩ : ∃ h0s, strOfNums (4 * (vv : Int) :: nn :: List.replicate (kk - 1) 0) = h0s := ⟨_, rfl⟩
      have hhl : h0s.size = kk + 1 := by rw [← hh0, strOfNums_size, hlen]
      have HH0 := Aside0.mk hh0
      have hch := conv1 (4 * nn % 256)
      have hcg := conv2 (4 * (vv : Int)) nn
      have hcg1 : ∀ (W : World) (o : Obj), (convert 32 9 (.slice (some ⟨W.heap.size + 1, 0, none⟩) 2 2)).run Try.prog ((W.alloc o).alloc (.cells #[.int .u8 (4 * (vv : Int)), .int .u8 nn] 5)) = .ok (.string (strOfNums [4 * (vv : Int), nn])) ((W.alloc o).alloc (.cells #[.int .u8 (4 * (vv : Int)), .int .u8 nn] 5)) := fun W o => by have := hcg (W.alloc o); simpa using this
      clear hlen hbin hvv
      rw [hh0] at hsp
      by_cases hL : 128 ≤ s.size
      · have t3 : decide (128 ≤ (s.size : Int)) = true := decide_eq_true (by omega)
        have hmod : (s.size : Int) % 128 + 128 = (s.size : Int) := by omega
        rw [if_pos hL] at hsp
        have hcz := conv1 (s.size : Int)
        have hcy := conv2 (s.size : Int) 1
        obtain ⟨zs, hzs⟩ : ∃ zs, strOfNums [(s.size : Int), 1] = zs := ⟨_, rfl⟩
        have hzl : zs.size = 2 := by rw [← hzs, strOfNums_size]; rfl
        rw [hzs] at hsp hcy
        have hcy1 : ∀ (W : World) (o : Obj), (convert 32 9 (.slice (some ⟨W.heap.size + 1, 0, none⟩) 2 2)).run Try.prog ((W.alloc o).alloc (.cells #[.int .u8 (s.size : Int), .int .u8 1] 5)) = .ok (.string zs) ((W.alloc o).alloc (.cells #[.int .u8 (s.size : Int), .int .u8 1] 5)) := fun W o => by have := hcy (W.alloc o); simpa using this
        have hq1 : zs.size + h0s.size ≤ 9223372036854775807 := by omega
        have hq2 : (zs ++ h0s).size + s.size ≤ 9223372036854775807 := by rw [ByteArray.size_append]; omega
        have hun := unpack_nil (zs ++ h0s ++ s) (by rw [ByteArray.size_append, ByteArray.size_append]; omega) 250
        rw [hsp] at hun
        have HU := Aside0.mk hun
        clear hun hsp hzs hh0 hzl hhl
        rcases t1' with t1 | ⟨t1, t2⟩
        all_goals
          go_enter Try.func10, Try.ntmps10
          go_wp2_with fail
          refine (alive _).mono ?_
          rintro e w1 ⟨rfl, hb⟩
          have HB1 := Aside0.mk (below_step HB.out hb)
          clear hb HB
          go_wp2_with fail
          clear hch hcg hcg1 t1
          go_loopg [6, 8] (kk - 1) (fun kq' v6 v8 wr => ∃ (j : Nat) (g : ByteArray), v6 = .string g ∧ v8 = .int .i64 ((j + 1 : Nat) : Int) ∧ j + 1 ≤ kk ∧ g.size ≤ 6 ∧ Aside0 (g = strOfNums (4 * (vv : Int) :: nn :: List.replicate j 0)) ∧ Aside0 (kq' = kk - 1 - j) ∧ Aside0 (Below w.heap.size w wr))
          case atStart => exact ⟨0, _, rfl, rfl, by omega, by rw [strOfNums_size]; simp, ⟨rfl⟩, ⟨rfl⟩, ⟨(by repeat (first | (with_reducible first | exact HB1.out | apply below_alloc | apply pw_below_drewN | apply below_drew1) | exact HB1.out))⟩⟩
          case round =>
            clear HB1
            obtain ⟨j, g, rfl, rfl, hj, hg, HG, HK, HB1⟩ := hrel
            by_cases hlt : j + 1 < kk
            · have hltb : decide (j + 1 < kk) = true := decide_eq_true hlt
              have hq3 : g.size + (⟨#[0]⟩ : ByteArray).size ≤ 9223372036854775807 := by show g.size + 1 ≤ _; omega
              go_wp2_with fail
              go_roundg (kk - 1 - (j + 1))
              case measure => have := HK.out; omega
              case rel =>
                have e : g ++ (⟨#[0]⟩ : ByteArray) = strOfNums (4 * (vv : Int) :: nn :: List.replicate (j + 1) 0) := by
                  rw [HG.out, show (⟨#[0]⟩ : ByteArray) = strOfNums [0] from rfl, append_str, List.replicate_succ']
                  rfl
                refine ⟨j + 1, g ++ ⟨#[0]⟩, rfl, by go_num, by omega, ?_, ⟨e⟩, ⟨rfl⟩, HB1⟩
                rw [e, strOfNums_size]
                simp
                omega
            · have hltb : decide (j + 1 < kk) = false := decide_eq_false hlt
              obtain rfl : g = h0s := by rw [HG.out, ← HH0.out, show j = kk - 1 by omega]
              clear HG HK HH0
              go_wp2_with fail
              refine (HU.out _).mono ?_
              rintro e w5 ⟨rfl, hb5⟩
              have HB5 : Aside0 (Below w.heap.size w w5) := ⟨below_step (by repeat (first | (with_reducible first | exact HB1.out | apply below_alloc | apply pw_below_drewN | apply below_drew1) | exact HB1.out)) hb5⟩
              clear hb5
              go_wp2_with fail
              go_ret
              exact ⟨rfl, HB5.out⟩
      · have t3 : decide (128 ≤ (s.size : Int)) = false := decide_eq_false (by omega)
        rw [if_neg hL] at hsp
        have hcz := conv1 (s.size : Int)
        obtain ⟨zs, hzs⟩ : ∃ zs, strOfNums [(s.size : Int)] = zs := ⟨_, rfl⟩
        have hzl : zs.size = 1 := by rw [← hzs, strOfNums_size]; rfl
        rw [hzs] at hsp hcz
        have hq1 : zs.size + h0s.size ≤ 9223372036854775807 := by omega
        have hq2 : (zs ++ h0s).size + s.size ≤ 9223372036854775807 := by rw [ByteArray.size_append]; omega
        have hun := unpack_nil (zs ++ h0s ++ s) (by rw [ByteArray.size_append, ByteArray.size_append]; omega) 250
        rw [hsp] at hun
        have HU := Aside0.mk hun
        clear hun hsp hzs hh0 hzl hhl
        rcases t1' with t1 | ⟨t1, t2⟩
        all_goals
          go_enter Try.func10, Try.ntmps10
          go_wp2_with fail
          refine (alive _).mono ?_
          rintro e w1 ⟨rfl, hb⟩
          have HB1 := Aside0.mk (below_step HB.out hb)
          clear hb HB
          go_wp2_with fail
          clear hch hcg hcg1 t1
          go_loopg [6, 8] (kk - 1) (fun kq' v6 v8 wr => ∃ (j : Nat) (g : ByteArray), v6 = .string g ∧ v8 = .int .i64 ((j + 1 : Nat) : Int) ∧ j + 1 ≤ kk ∧ g.size ≤ 6 ∧ Aside0 (g = strOfNums (4 * (vv : Int) :: nn :: List.replicate j 0)) ∧ Aside0 (kq' = kk - 1 - j) ∧ Aside0 (Below w.heap.size w wr))
          case atStart => exact ⟨0, _, rfl, rfl, by omega, by rw [strOfNums_size]; simp, ⟨rfl⟩, ⟨rfl⟩, ⟨(by repeat (first | (with_reducible first | exact HB1.out | apply below_alloc | apply pw_below_drewN | apply below_drew1) | exact HB1.out))⟩⟩
          case round =>
            clear HB1
            obtain ⟨j, g, rfl, rfl, hj, hg, HG, HK, HB1⟩ := hrel
            by_cases hlt : j + 1 < kk
            · have hltb : decide (j + 1 < kk) = true := decide_eq_true hlt
              have hq3 : g.size + (⟨#[0]⟩ : ByteArray).size ≤ 9223372036854775807 := by show g.size + 1 ≤ _; omega
              go_wp2_with fail
              go_roundg (kk - 1 - (j + 1))
              case measure => have := HK.out; omega
              case rel =>
                have e : g ++ (⟨#[0]⟩ : ByteArray) = strOfNums (4 * (vv : Int) :: nn :: List.replicate (j + 1) 0) := by
                  rw [HG.out, show (⟨#[0]⟩ : ByteArray) = strOfNums [0] from rfl, append_str, List.replicate_succ']
                  rfl
                refine ⟨j + 1, g ++ ⟨#[0]⟩, rfl, by go_num, by omega, ?_, ⟨e⟩, ⟨rfl⟩, HB1⟩
                rw [e, strOfNums_size]
                simp
                omega
            · have hltb : decide (j + 1 < kk) = false := decide_eq_false hlt
              obtain rfl : g = h0s := by rw [HG.out, ← HH0.out, show j = kk - 1 by omega]
              clear HG HK HH0
              go_wp2_with fail
              refine (HU.out _).mono ?_
              rintro e w5 ⟨rfl, hb5⟩
              have HB5 : Aside0 (Below w.heap.size w w5) := ⟨below_step (by repeat (first | (with_reducible first | exact HB1.out | apply below_alloc | apply pw_below_drewN | apply below_drew1) | exact HB1.out)) hb5⟩
              clear hb5
              go_wp2_with fail
              go_ret
              exact ⟨rfl, HB5.out⟩
end Go.Proofs.Ytpceignbgnekmaa.Sn
