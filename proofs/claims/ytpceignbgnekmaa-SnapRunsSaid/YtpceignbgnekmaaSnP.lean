/- The law of a copy that comes round, walked. -/
import Derived.Test.YtpceignbgnekmaaSnO
namespace Go.Proofs.Ytpceignbgnekmaa.Sn
open Go.RowKit Go.Proofs.YtpceignbgnekmaaW.PrintWords Go.Proofs.Ytpceignbgnekmaa.By Go.Proofs.Ytpceignbgnekmaa.Md Go.Proofs.Ytpceignbgnekmaa.Cur Go.Proofs.Ytpceignbgnekmaa.Next Go.Proofs.Ytpceignbgnekmaa.LebPut

theorem runs_out (s : ByteArray) (hs1 : 1 ≤ s.size) (hs2 : s.size ≤ 60) (v : Nat) (hv : v ≤ 63) :
    outF (strOfNums [(s.size : Int) + (v + 1), 4 * ((s.size : Int) - 1)] ++ s ++ strOfNums [4 * (v : Int) + 2, (s.size : Int), 0]) 200 = (strOfNums (rep s.size (v + 1) (bytesOf s)), 0) := by
  have hin1 : InByte [(s.size : Int) + (v + 1), 4 * ((s.size : Int) - 1)] := InByte.cons ⟨by omega, by omega⟩ (InByte.cons ⟨by omega, by omega⟩ InByte.nil)
  have hin2 : InByte [4 * (v : Int) + 2, (s.size : Int), 0] := InByte.cons ⟨by omega, by omega⟩ (InByte.cons ⟨by omega, by omega⟩ (InByte.cons ⟨by omega, by omega⟩ InByte.nil))
  have hin3 : InByte [4 * ((s.size : Int) - 1)] := InByte.cons ⟨by omega, by omega⟩ InByte.nil
  have hbl : bytesOf (strOfNums [(s.size : Int) + (v + 1), 4 * ((s.size : Int) - 1)] ++ s ++ strOfNums [4 * (v : Int) + 2, (s.size : Int), 0]) = ((s.size : Int) + (v + 1)) :: (4 * ((s.size : Int) - 1)) :: (bytesOf s ++ [4 * (v : Int) + 2, (s.size : Int), 0]) := by
    rw [bytes_append, bytes_append, bytes_str hin1, bytes_str hin2]
    simp
  obtain ⟨t, ht⟩ : ∃ t, strOfNums [4 * ((s.size : Int) - 1)] ++ s ++ strOfNums [4 * (v : Int) + 2, (s.size : Int), 0] = t := ⟨_, rfl⟩
  have htl : bytesOf t = [] ++ ([4 * (((s.size - 1 : Nat)) : Int)] ++ (bytesOf s ++ [4 * (v : Int) + 2, (s.size : Int), 0])) := by
    rw [← ht, bytes_append, bytes_append, bytes_str hin3, bytes_str hin2, show (((s.size - 1 : Nat)) : Int) = (s.size : Int) - 1 by omega]
    simp
  have htl2 : bytesOf t = ([4 * (((s.size - 1 : Nat)) : Int)] ++ bytesOf s) ++ ((4 * (v : Int) + 2) :: (s.size : Int) :: 0 :: []) := by
    rw [htl]
    simp
  have htz : t.size = s.size + 4 := by rw [size_eq, htl]; simp [bytesOf_length]
  have hz := szF_one hbl (by omega)
  have hr1 := run_lit (n := (s.size : Int) + (v + 1)) (t := t) (fuel := t.size) (xs := []) (a := 0) (v := s.size - 1) (m := s.size) htl rfl (by omega) (by unfold hd; rw [if_pos rfl, if_neg (by omega)]; rfl) rfl (by rw [if_neg (by omega)]; omega) (bytesOf_length s) (by simp; omega)
  obtain ⟨fu, hfu⟩ : ∃ fu, t.size = fu + 1 := ⟨t.size - 1, by omega⟩
  have hr2 := run_mid (n := (s.size : Int) + (v + 1)) (t := t) (fuel := fu) (xs := [] ++ bytesOf s) (a := 0 + 1 + s.size) (v := v) htl2 (by simp [bytesOf_length]; omega) hv (by simp [bytesOf_length]; omega) (by simp [bytesOf_length])
  have hr3 := run_end (n := (s.size : Int) + (v + 1)) (t := t) (fuel := fu) (xs := rep ((s.size : Int) + 256 * 0).toNat (v + 1) ([] ++ bytesOf s)) (a := 0 + 1 + s.size + 3) (by omega)
  have hr : run ((s.size : Int) + (v + 1)) t (t.size + 1) [] 0 = (rep s.size (v + 1) (bytesOf s), 0) := by
    rw [hr1]
    show run _ t t.size ([] ++ bytesOf s) (0 + 1 + s.size) = _
    rw [hfu, hr2, hr3]
    simp
  exact out_of (most := 200) (t := t) (l := [(s.size : Int) + (v + 1)]) (kn := 1) hz (by omega) (by rw [hbl, htl]; simp; omega) rfl hr (by rw [rep_len, bytesOf_length]; omega)

theorem rd_str (xs : List Int) (hin : InByte xs) (j : Nat) (h : j < (strOfNums xs).size) : (((strOfNums xs)[j]'h).toNat : Int) = xs.getD j 0 := by
  have hl : j < (bytesOf (strOfNums xs)).length := by rw [bytesOf_length]; exact h
  have h1 := bt_get (strOfNums xs) j hl
  have h2 : bt (strOfNums xs) j = (((strOfNums xs)[j]'h).toNat : Int) := by simp [bt, h]
  rw [← h2, h1]
  simp only [bytes_str hin]
  have hl2 : j < xs.length := by rw [strOfNums_size] at h; exact h
  rw [List.getD_eq_getElem?_getD, List.getElem?_eq_getElem hl2]
  rfl
theorem rd_own (s : ByteArray) (j : Nat) (h : j < s.size) : ((s[j]'h).toNat : Int) = (bytesOf s).getD j 0 := by
  have hl : j < (bytesOf s).length := by rw [bytesOf_length]; exact h
  have h1 := bt_get s j hl
  have h2 : bt s j = ((s[j]'h).toNat : Int) := by simp [bt, h]
  rw [← h2, h1, List.getD_eq_getElem?_getD, List.getElem?_eq_getElem hl]
  rfl

set_option maxRecDepth 100000 in
set_option maxHeartbeats 2000000 in
theorem runs (s : ByteArray) (n : Int) (hs : s.size ≤ 140737488351232) (hw : (Lit.int .u8 n).wf = true) (w : World) : Calls Try.prog 11 #[.string s, .int .u8 n] w fun e w' => e = .returned (.bool true) ∧ Below w.heap.size w w' := by
  have HB := Aside0.mk (Below.refl w.heap.size w)
  obtain ⟨x0, x1⟩ : 0 ≤ n ∧ n ≤ 255 := by simpa [Lit.wf, IntKind.min, IntKind.max, IntKind.signed, IntKind.bits] using hw
  have hcs : ((s.size : Int) == 0) = true ∨ (((s.size : Int) == 0) = false ∧ decide (60 < (s.size : Int)) = true) ∨ (((s.size : Int) == 0) = false ∧ decide (60 < (s.size : Int)) = false) := by
    by_cases h1 : s.size = 0
    · exact .inl (beq_iff_eq.2 (by omega))
    · have h2 : ((s.size : Int) == 0) = false := beq_eq_false_iff_ne.mpr (by omega)
      by_cases h3 : 60 < s.size
      · exact .inr (.inl ⟨h2, decide_eq_true (by omega)⟩)
      · exact .inr (.inr ⟨h2, decide_eq_false (by omega)⟩)
  rcases hcs with h1 | ⟨h1, h2⟩ | ⟨h1, h2⟩
  · go_enter Try.func11, Try.ntmps11
    go_wp2_with fail
    refine (alive _).mono ?_
    rintro e w1 ⟨rfl, hb⟩
    have HB1 := Aside0.mk (below_step HB.out hb)
    clear hb HB
    go_wp2_with fail
    go_ret
    exact ⟨rfl, HB1.out⟩
  · go_enter Try.func11, Try.ntmps11
    go_wp2_with fail
    refine (alive _).mono ?_
    rintro e w1 ⟨rfl, hb⟩
    have HB1 := Aside0.mk (below_step HB.out hb)
    clear hb HB
    go_wp2_with fail
    go_ret
    exact ⟨rfl, HB1.out⟩
  · have hs1 : 1 ≤ s.size := by have := beq_eq_false_iff_ne.mp h1; omega
    have hs2 : s.size ≤ 60 := by have := of_decide_eq_false h2; omega
    obtain ⟨v, hv⟩ : ∃ v : Nat, n % 64 = (v : Int) := ⟨(n % 64).toNat, by omega⟩
    have hv63 : v ≤ 63 := by omega
    obtain ⟨K, hK⟩ : ∃ K : Int, 1 + (v : Int) = K := ⟨_, rfl⟩
    obtain ⟨A1, hA1⟩ : ∃ A1 : Int, (s.size : Int) + K = A1 := ⟨_, rfl⟩
    obtain ⟨A2, hA2⟩ : ∃ A2 : Int, 4 * ((s.size : Int) - 1) = A2 := ⟨_, rfl⟩
    obtain ⟨A3, hA3⟩ : ∃ A3 : Int, 4 * (K - 1) + 2 = A3 := ⟨_, rfl⟩
    have hro := runs_out s hs1 hs2 v hv63
    rw [show (s.size : Int) + ((v : Int) + 1) = A1 by omega, hA2, show 4 * (v : Int) + 2 = A3 by omega] at hro
    obtain ⟨o, ho⟩ : ∃ o, strOfNums (rep s.size (v + 1) (bytesOf s)) = o := ⟨_, rfl⟩
    have hoz : o.size = s.size + (v + 1) := by rw [← ho, strOfNums_size, rep_len, bytesOf_length]
    have hod : ∀ j (h : j < o.size) (h2 : j % s.size < s.size), ((o[j]'h).toNat : Int) = ((s[j % s.size]'h2).toNat : Int) := by
      subst ho
      intro j h h2
      rw [rd_str _ (rep_in _ _ _ (bytes_in s)) j h, rd_own s _ h2]
      rw [strOfNums_size, rep_len] at h
      refine rep_round s.size (by omega) (bytesOf s) (v + 1) (bytesOf s) (by rw [bytesOf_length]; omega) ?_ j h
      intro i hi
      rw [bytesOf_length] at hi
      rw [Nat.mod_eq_of_lt hi]
    rw [ho] at hro
    obtain ⟨p1, hp1⟩ : ∃ p1, strOfNums [A1, A2] = p1 := ⟨_, rfl⟩
    obtain ⟨p2, hp2⟩ : ∃ p2, strOfNums [A3, (s.size : Int), 0] = p2 := ⟨_, rfl⟩
    have hp1z : p1.size = 2 := by rw [← hp1, strOfNums_size]; rfl
    have hp2z : p2.size = 3 := by rw [← hp2, strOfNums_size]; rfl
    have hc1 := conv2 A1 A2
    have hc2' := conv3 A3 (s.size : Int) 0
    rw [hp1] at hro hc1
    rw [hp2] at hro hc2'
    have hc2 : ∀ (W : World) (o : Obj), (convert 32 9 (.slice (some ⟨W.heap.size + 1, 0, none⟩) 3 3)).run Try.prog ((W.alloc o).alloc (.cells #[.int .u8 A3, .int .u8 (s.size : Int), .int .u8 0] 5)) = .ok (.string p2) ((W.alloc o).alloc (.cells #[.int .u8 A3, .int .u8 (s.size : Int), .int .u8 0] 5)) := fun W o => by have := hc2' (W.alloc o); simpa using this
    have hun := unpack_nil (p1 ++ s ++ p2) (by rw [ByteArray.size_append, ByteArray.size_append]; omega) 200
    rw [hro] at hun
    have HU := Aside0.mk hun
    have hq1 : p1.size + s.size ≤ 9223372036854775807 := by omega
    have hq2 : (p1 ++ s).size + p2.size ≤ 9223372036854775807 := by rw [ByteArray.size_append]; omega
    have t1 : decide (128 ≤ A1) = false := decide_eq_false (by omega)
    have hoA : (o.size : Int) = A1 := by omega
    have HOZ := Aside0.mk hoz
    have HOD := Aside0.mk hod
    have HOA := Aside0.mk hoA
    clear hun hro hc2' hp1 hp2 hp1z hp2z ho hoz hod
    have t2 : ((o.size : Int) != A1) = false := by rw [hoA]; simp
    clear hoA
    go_enter Try.func11, Try.ntmps11
    go_wp2_with fail
    refine (alive _).mono ?_
    rintro e w1 ⟨rfl, hb⟩
    have HB1 := Aside0.mk (below_step HB.out hb)
    clear hb HB
    go_wp2_with fail
    refine (HU.out _).mono ?_
    rintro e w5 ⟨rfl, hb5⟩
    have HB5 : Aside0 (Below w.heap.size w w5) := ⟨below_step (by repeat (first | (with_reducible first | exact HB1.out | apply below_alloc | apply pw_below_drewN | apply below_drew1) | exact HB1.out)) hb5⟩
    clear hb5 hc1 hc2 hq1 hq2 HU HB1
    go_wp2_with fail
    clear hK hA1 hA2 hA3 hv t1 t2
    go_loopg [9] o.size (fun kq v9 wr => ∃ (j : Nat), v9 = .int .i64 j ∧ j ≤ o.size ∧ Aside0 (kq = o.size - j) ∧ Aside0 (Below w.heap.size w wr))
    case atStart => exact ⟨0, by go_num, by omega, ⟨by omega⟩, HB5⟩
    case round =>
      clear HB5
      obtain ⟨j, rfl, hj, HK, HB5⟩ := hrel
      have hoz := HOZ.out
      have hob : o.size ≤ 124 := by omega
      by_cases hlt : j < o.size
      · have hltb : decide (j < o.size) = true := decide_eq_true hlt
        have hr2 : j % s.size < s.size := Nat.mod_lt _ (by omega)
        obtain ⟨y, hy⟩ : ∃ y : Int, ((s[j % s.size]'hr2).toNat : Int) = y := ⟨_, rfl⟩
        have hod := HOD.out j hlt hr2
        rw [hy] at hod
        obtain ⟨r, hr⟩ : ∃ r : Nat, j % s.size = r := ⟨_, rfl⟩
        have hrs : r < s.size := by omega
        have e1 : ∀ h : j < o.size, ((o[j]'h).toNat : Int) = y := fun _ => hod
        have e2 : ∀ h : r < s.size, ((s[r]'h).toNat : Int) = y := fun _ => by subst hr; exact hy
        have e3 : (j : Int).tmod (s.size : Int) = (r : Int) := by rw [← hr]; rfl
        have e4 : IntKind.i64.wrap (r : Int) = (r : Int) := i64_id (by omega) (by omega)
        have e5 : (j : Int) % (s.size : Int) = (r : Int) := by rw [← hr]; rfl
        clear hr hr2 hy hod hoz
        go_wp2_with fail
        go_quiet (fail)
        go_wp2_with fail
        go_roundg (o.size - (j + 1))
        case measure => have := HK.out; omega
        case rel => exact ⟨j + 1, by go_num, by omega, ⟨rfl⟩, ⟨pw_below_drewN HB5.out _⟩⟩
      · have hltb : decide (j < o.size) = false := decide_eq_false hlt
        clear hoz
        go_wp2_with fail
        go_ret
        exact ⟨rfl, HB5.out⟩
end Go.Proofs.Ytpceignbgnekmaa.Sn
