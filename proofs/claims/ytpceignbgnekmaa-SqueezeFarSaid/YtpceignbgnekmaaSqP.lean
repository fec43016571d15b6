/- The law of what stands far behind, walked. -/
import Derived.Test.YtpceignbgnekmaaSqO
import Derived.Test.YtpceignbgnekmaaSqN
namespace Go.Proofs.Ytpceignbgnekmaa.Sq
open Go.RowKit Go.Proofs.YtpceignbgnekmaaW.PrintWords Go.Proofs.Ytpceignbgnekmaa.By Go.Proofs.Ytpceignbgnekmaa.Md Go.Proofs.Ytpceignbgnekmaa.Cur Go.Proofs.Ytpceignbgnekmaa.Sn Go.Proofs.Ytpceignbgnekmaa.LebPut

theorem packF_in (s : ByteArray) (hs : s.size ≤ 65536) : InByte (packF s) := by
  have hp10 : (s.size : Int) < 128 ^ (9 + 1) := by
    have : (128 : Int) ^ (9 + 1) = 1180591620717411303424 := by decide
    omega
  rw [packF, packL_eq]
  exact (Leb.putL_in 9 _ (by omega) hp10).append (packE_in s hs _ _ _ (Nat.le_refl _) (Nat.zero_le _))
theorem last_of (pk : ByteArray) (front cp : List Int) (d : Nat) (h : bytesOf pk = front ++ cp) (hd : d + cp.length = pk.size) : bytesOf (pk.extract d pk.size) = cp := by
  have hz : pk.size = front.length + cp.length := by rw [size_eq, h, List.length_append]
  rw [bytes_extract, List.take_of_length_le (by rw [bytesOf_length]; omega), h, List.drop_left' (by omega)]
theorem byte_of (l : ByteArray) (cp : List Int) (h : bytesOf l = cp) (j : Nat) (x : Int) (hx : cp[j]? = some x) : ∀ hj : j < l.size, ((l[j]'hj).toNat : Int) = x := by
  intro hj
  have := bt_of h j hx
  rw [← this]
  simp [bt, hj]
theorem likeL_succ (n : Nat) : likeL (n + 1) = likeL n ++ [128 + (n : Int)] := by simp [likeL, List.range_succ]
theorem made_empty (w : World) (B n : Nat) (hn : n ≤ 65535) (hB : B ≤ w.heap.size) : ∃ w', (Instr.makeSlice 32 (.int .i64 0) (.int .i64 n)).run Try.prog w = .ok (sl w.heap.size 0 n) w' ∧ RX w' B w.heap.size n [] ∧ Below w.heap.size w w' := by
  obtain ⟨i0, hi, hz⟩ := Option.map_eq_some_iff.1 info5
  simp only [Prod.mk.injEq] at hz
  obtain ⟨hz0, hz1, hz2⟩ := hz
  have := run_makeSlice (P := Try.prog) w 32 5 i0 (.int .u8 0) Try.underlying32 hi hz0 .i64 .i64 0 n (by omega) (by omega) (by rw [hz1]; omega) (by rw [hz2]; omega) (by omega)
  rw [Int.toNat_natCast] at this
  refine ⟨_, this, ⟨hB, Nat.zero_le _, by simp only [maxLen]; omega, _, _, blk_new w _, ?_, rfl, .inl rfl⟩, (Below.refl _ _).alloc (Nat.le_refl _) _⟩
  rw [size_madeCells, hz1]
  omega

set_option maxRecDepth 100000 in
set_option maxHeartbeats 4000000 in
theorem far (gap part : Int) (hw1 : (Lit.int .u16 gap).wf = true) (hw2 : (Lit.int .u8 part).wf = true) (w : World) : Calls Try.prog 13 #[.int .u16 gap, .int .u8 part] w fun e w' => e = .returned (.bool true) ∧ Below w.heap.size w w' := by
  have HB := Aside0.mk (Below.refl w.heap.size w)
  obtain ⟨x0, x1⟩ : 0 ≤ gap ∧ gap ≤ 65535 := by simpa [Lit.wf, IntKind.min, IntKind.max, IntKind.signed, IntKind.bits] using hw1
  obtain ⟨y0, y1⟩ : 0 ≤ part ∧ part ≤ 255 := by simpa [Lit.wf, IntKind.min, IntKind.max, IntKind.signed, IntKind.bits] using hw2
  obtain ⟨n, hn⟩ : ∃ n : Nat, 4 + part % 61 = (n : Int) := ⟨(4 + part % 61).toNat, by omega⟩
  obtain ⟨k, hk⟩ : ∃ k : Nat, gap % 3000 = (k : Int) := ⟨(gap % 3000).toNat, by omega⟩
  have hn4 : 4 ≤ n ∧ n ≤ 64 := by omega
  have hk3 : k < 3000 := by omega
  go_enter Try.func13, Try.ntmps13
  go_wp2_with fail
  refine (alive _).mono ?_
  rintro e w1 ⟨rfl, hb⟩
  have HB1 := Aside0.mk (below_step HB.out hb)
  clear hb HB
  go_wp2_with fail
  clear hn
  go_loopg [6, 7] n (fun kq v6 v7 wr => ∃ (i : Nat) (h : ByteArray), v6 = .string h ∧ v7 = .int .i64 i ∧ i ≤ n ∧ h.size = i ∧ Aside0 (h = strOfNums (likeL i)) ∧ Aside0 (kq = n - i) ∧ Aside0 (Below w.heap.size w wr))
  case atStart => exact ⟨0, ⟨#[]⟩, rfl, by go_num, Nat.zero_le _, rfl, ⟨rfl⟩, ⟨rfl⟩, HB1⟩
  case round =>
    clear HB1
    obtain ⟨i, h, rfl, rfl, hin, hhz, HH, HK, HBR⟩ := hrel
    by_cases hlt : i < n
    · have hltb : decide (i < n) = true := decide_eq_true hlt
      have hcv := conv1 (128 + (i : Int))
      obtain ⟨q, hq⟩ : ∃ q, strOfNums [128 + (i : Int)] = q := ⟨_, rfl⟩
      rw [hq] at hcv
      have hqz : q.size = 1 := by rw [← hq, strOfNums_size]; rfl
      have hsz : h.size + q.size ≤ 9223372036854775807 := by omega
      have hnz : (h ++ q).size = i + 1 := by rw [ByteArray.size_append]; omega
      have hne : h ++ q = strOfNums (likeL (i + 1)) := by rw [HH.out, ← hq, append_str, likeL_succ]
      have HNE := Aside0.mk hne
      have HNZ := Aside0.mk hnz
      clear hq hqz hnz hne
      go_wp2_with fail
      go_roundg (n - (i + 1))
      case measure => have := HK.out; omega
      case rel => exact ⟨i + 1, h ++ q, rfl, by go_num, by omega, HNZ.out, HNE, ⟨rfl⟩, ⟨HBR.out.alloc HBR.out.size _⟩⟩
    · obtain rfl : i = n := by omega
      have hltb : decide (i < i) = false := decide_eq_false (Nat.lt_irrefl _)
      obtain ⟨w3, hmk, hrx, hb3⟩ := made_empty wr w.heap.size (3 * k) (by omega) HBR.out.size
      rw [show ((3 * k : Nat) : Int) = 3 * (k : Int) by omega] at hmk
      have HRX := Aside0.mk hrx
      have HB3 := Aside0.mk (below_step HBR.out hb3)
      clear hrx hb3 HK HBR
      go_wp2_with fail
      obtain ⟨g0, hg0⟩ : ∃ g0, wr.heap.size = g0 := ⟨_, rfl⟩
      rw [hg0] at HRX ⊢
      clear hg0 hmk
      rw [hk]
      clear hk
      go_loopg [9, 10] k (fun kq v9 v10 wr => ∃ (t g cap : Nat) (xs : List Int), v9 = sl g xs.length cap ∧ v10 = .int .i64 t ∧ t ≤ k ∧ xs.length ≤ 9000 ∧ Aside0 (xs = noiseL t) ∧ Aside0 (kq = k - t) ∧ Aside0 (RX wr w.heap.size g cap xs) ∧ Aside0 (Below w.heap.size w wr))
      case atStart => exact ⟨0, g0, 3 * k, [], rfl, by go_num, Nat.zero_le _, Nat.zero_le _, ⟨rfl⟩, ⟨rfl⟩, HRX, HB3⟩
      case round =>
        clear HRX HB3
        obtain ⟨t, g, cap, xs, rfl, rfl, htk, hxl, HX, HKT, HRX, HBR⟩ := hrel
        by_cases htl : t < k
        · have htb : decide (t < k) = true := decide_eq_true htl
          have hbs := HBR.out.size
          have HRX2 : Aside0 (RX ((‹World›).alloc (.cells #[.int .u8 121, .int .u8 ((t : Int) / 120), .int .u8 ((t : Int) % 120)] 5)) w.heap.size g cap xs) := ⟨HRX.out.mod ((Mod.refl (fun _ => False) _).alloc _) (fun h => h)⟩
          have HB2 := Aside0.mk (HBR.out.alloc hbs (.cells #[.int .u8 121, .int .u8 ((t : Int) / 120), .int .u8 ((t : Int) % 120)] 5))
          have hb2 := HB2.out.size
          have HG : Aside0 (((‹World›).alloc (.cells #[.int .u8 121, .int .u8 ((t : Int) / 120), .int .u8 ((t : Int) % 120)] 5)).heap[(‹World›).heap.size]? = some (.cells (nums .u8 [121, (t : Int) / 120, (t : Int) % 120]).toArray 5 (0, 0))) := ⟨blk_new _ _⟩
          have hby : xs.length + [121, (t : Int) / 120, (t : Int) % 120].length ≤ 140737488355328 := by show xs.length + 3 ≤ _; omega
          go_wp2_with (at_builtin; refine wp_app_lit rfl (.tmp 47) (.tmp 54) rfl w.heap.size _ _ _ HRX2.out [121, (t : Int) / 120, (t : Int) % 120] _ _ HG.out rfl rfl hby hb2 ?_; intro zs g2 cap2 w5 HZ hr hg; have HR5 := Aside0.mk hr; have HB5 := Aside0.mk (HB2.out.grown hg hb2 (fun k hk => by cases hk; exact HRX2.out.lt.1)); clear hr hg)
          go_roundg (k - (t + 1))
          case measure => have := HKT.out; omega
          case rel =>
            have hzs : zs = noiseL (t + 1) := by rw [← HZ.out, HX.out, noiseL]; rfl
            exact ⟨t + 1, g2, cap2, zs, rfl, by go_num, by omega, by rw [hzs, noiseL_len]; omega, ⟨hzs⟩, ⟨rfl⟩, HR5, HB5⟩
        · obtain rfl : t = k := by omega
          have htb : decide (t < t) = false := decide_eq_false (Nat.lt_irrefl _)
          have hcv := HRX.out.string
          have hcv' := fun (W : World) (hR : RX W w.heap.size g cap xs) => hR.string
          obtain ⟨ns, hns⟩ : ∃ ns, strOfNums xs = ns := ⟨_, rfl⟩
          rw [hns] at hcv
          have hnl : xs.length = 3 * t := by rw [HX.out, noiseL_len]
          have hnz : ns.size = 3 * t := by rw [← hns, strOfNums_size, hnl]
          have hq1 : h.size + ns.size ≤ 9223372036854775807 := by omega
          have hq2 : (h ++ ns).size + h.size ≤ 9223372036854775807 := by rw [ByteArray.size_append]; omega
          have hlin : InByte (likeL i) := fun x hx => by
            obtain ⟨a, ha, rfl⟩ := List.mem_map.1 hx
            have := List.mem_range.1 ha
            omega
          have hnin : InByte (noiseL t) := fun x hx => by
            obtain ⟨a, ha⟩ := List.getElem?_of_mem hx
            obtain ⟨hal, _⟩ := List.getElem?_eq_some_iff.1 ha
            rw [noiseL_len] at hal
            rw [noiseL_at t a hal] at ha
            have := nz_range a (by omega)
            simp only [Option.some.injEq] at ha
            omega
          have hsb : bytesOf (h ++ ns ++ h) = likeL i ++ (noiseL t ++ likeL i) := by
            rw [bytes_append, bytes_append, HH.out, ← hns, HX.out, bytes_str hlin, bytes_str hnin, List.append_assoc]
          obtain ⟨S, hS⟩ : ∃ S, h ++ ns ++ h = S := ⟨_, rfl⟩
          rw [hS] at hsb
          have hSz := far_size hsb
          have hpf := far_packF hsb hk3 hn4.1 hn4.2
          have hpl := packF_len S (by omega)
          have hpin := packF_in S (by omega)
          obtain ⟨pk, hpk⟩ : ∃ pk, strOfNums (packF S) = pk := ⟨_, rfl⟩
          have hpb : bytesOf pk = packF S := by rw [← hpk]; exact bytes_str hpin
          have hpz : pk.size = (packF S).length := by rw [← hpk, strOfNums_size]
          have hpkb : pk.size ≤ 100000 := by rw [hpz]; omega
          have h1 := pack_calls S (by omega)
          have ho := out_pack S (by omega) (S.size : Int) (Int.le_refl _)
          rw [hpk] at h1 ho
          have h2 := unpack_nil pk (by omega) (S.size : Int)
          rw [ho] at h2
          rw [hpf] at hpb hpz
          have H1 := Aside0.mk h1
          have H2 := Aside0.mk h2
          obtain ⟨Q, hQ⟩ : ∃ Q : Int, (i : Int) + (xs.length : Int) = Q := ⟨_, rfl⟩
          have hQ2 : Q = ((i + 3 * t : Nat) : Int) := by rw [← hQ, hnl]; omega
          rw [← hQ2] at hpb hpz
          have HPB := Aside0.mk hpb
          by_cases hc : (i : Int) ≤ 11 ∧ Q < 2048
          · have t1 : decide ((i : Int) ≤ 11) = true := decide_eq_true hc.1
            have t2 : decide (Q < 2048) = true := decide_eq_true hc.2
            have hcp : cpB (i : Int) Q = [1 + 4 * ((i : Int) - 4) + 32 * (Q / 256), Q % 256] := by rw [cpB, if_pos hc]
            obtain ⟨V, hV⟩ : ∃ V : Int, 1 + 4 * ((i : Int) - 4) + 32 * (Q / 256) = V := ⟨_, rfl⟩
            obtain ⟨Z, hZ⟩ : ∃ Z : Int, Q % 256 = Z := ⟨_, rfl⟩
            rw [hcp, hV, hZ] at hpb hpz
            rw [List.length_append] at hpz
            obtain ⟨d, hd⟩ : ∃ d : Nat, pk.size = d + 2 := ⟨pk.size - 2, by simp only [List.length_cons, List.length_nil] at hpz; omega⟩
            have hlb := last_of pk _ [V, Z] d hpb (by rw [hd]; rfl)
            obtain ⟨lst, hlst⟩ : ∃ lst, pk.extract d pk.size = lst := ⟨_, rfl⟩
            rw [hlst] at hlb
            have hlz : lst.size = 2 := by rw [size_eq, hlb]; rfl
            have b0 := byte_of lst _ hlb 0 V rfl
            have b1 := byte_of lst _ hlb 1 Z rfl
            have hd1 : (pk.size : Int) - 2 = (d : Int) := by omega
            have hV0 : 0 ≤ V := by omega
            have hV1 : V < 256 := by omega
            have hZ0 : 0 ≤ Z := by omega
            have hZ1 : Z < 256 := by omega
            have q1 : V.tmod 4 = 1 := by rw [Int.tmod_eq_emod_of_nonneg hV0]; omega
            have q2 : V.tdiv 32 = Q / 256 := by rw [Int.tdiv_eq_ediv_of_nonneg hV0]; omega
            have q3 : IntKind.i64.wrap (Q / 256) = Q / 256 := i64_id (by omega) (by omega)
            have q4 : IntKind.i64.wrap (Q / 256 * 256) = Q / 256 * 256 := i64_id (by omega) (by omega)
            have q5 : IntKind.i64.wrap (Q / 256 * 256 + Z) = Q := by rw [i64_id (by omega) (by omega)]; omega
            have q6 : IntKind.i64.wrap ((i : Int) + (xs.length : Int)) = Q := by rw [hQ]; exact i64_id (by omega) (by omega)
            have hdp : d ≤ pk.size := by omega
            have hdb : d ≤ 100000 := by omega
            clear hd hQ2 hpb hpz hlb hV hZ hcp hpl hpin hsb hSz hnl hnz hlin hnin hpk h1 ho h2 hns HPB
            go_wp2_with fail
            refine (H1.out _).mono ?_
            rintro e w5 ⟨rfl, hb5⟩
            have HB5 := Aside0.mk (below_step HBR.out hb5)
            clear hb5
            go_wp2_with fail
            refine (H2.out _).mono ?_
            rintro e w6 ⟨rfl, hb6⟩
            have HB6 := Aside0.mk (below_step HB5.out hb6)
            clear hb6
            go_wp2_with fail
            go_quiet (fail)
            go_wp2_with fail
            go_ret
            exact ⟨rfl, pw_below_drewN HB6.out _⟩
          · have hcp : cpB (i : Int) Q = [2 + 4 * ((i : Int) - 1), Q % 256, Q / 256] := by rw [cpB, if_neg hc]
            obtain ⟨V, hV⟩ : ∃ V : Int, 2 + 4 * ((i : Int) - 1) = V := ⟨_, rfl⟩
            obtain ⟨Y, hY⟩ : ∃ Y : Int, Q % 256 = Y := ⟨_, rfl⟩
            obtain ⟨Z, hZ⟩ : ∃ Z : Int, Q / 256 = Z := ⟨_, rfl⟩
            have hq9 : Q ≤ 9100 := by omega
            have hq0 : 0 ≤ Q := by omega
            rw [hcp, hV, hY, hZ] at hpb hpz
            rw [List.length_append] at hpz
            obtain ⟨d, hd⟩ : ∃ d : Nat, pk.size = d + 3 := ⟨pk.size - 3, by simp only [List.length_cons, List.length_nil] at hpz; omega⟩
            have hlb := last_of pk _ [V, Y, Z] d hpb (by rw [hd]; rfl)
            obtain ⟨lst, hlst⟩ : ∃ lst, pk.extract d pk.size = lst := ⟨_, rfl⟩
            rw [hlst] at hlb
            have hlz : lst.size = 3 := by rw [size_eq, hlb]; rfl
            have b0 := byte_of lst _ hlb 0 V rfl
            have b1 := byte_of lst _ hlb 1 Y rfl
            have b2 := byte_of lst _ hlb 2 Z rfl
            have hd1 : (pk.size : Int) - 3 = (d : Int) := by omega
            have hV0 : 0 ≤ V := by omega
            have hV1 : V < 256 := by omega
            have hY0 : 0 ≤ Y := by omega
            have hY1 : Y < 256 := by omega
            have hZ0 : 0 ≤ Z := by omega
            have hZ1 : Z < 256 := by omega
            have q1 : V.tmod 4 = 2 := by rw [Int.tmod_eq_emod_of_nonneg hV0]; omega
            have q2 : V.tdiv 4 = (i : Int) - 1 := by rw [Int.tdiv_eq_ediv_of_nonneg hV0]; omega
            have q3 : IntKind.i64.wrap ((i : Int) - 1) = (i : Int) - 1 := i64_id (by omega) (by omega)
            have q7 : IntKind.i64.wrap ((i : Int) - 1 + 1) = (i : Int) := by rw [i64_id (by omega) (by omega)]; omega
            have q4 : IntKind.i64.wrap (256 * Z) = 256 * Z := i64_id (by omega) (by omega)
            have q5 : IntKind.i64.wrap (Y + 256 * Z) = Q := by rw [i64_id (by omega) (by omega)]; omega
            have q6 : IntKind.i64.wrap ((i : Int) + (xs.length : Int)) = Q := by rw [hQ]; exact i64_id (by omega) (by omega)
            have hdp : d ≤ pk.size := by omega
            have hdb : d ≤ 100000 := by omega
            have hcc : (decide ((i : Int) ≤ 11) && decide (Q < 2048)) = false := by
              cases hcd : (decide ((i : Int) ≤ 11) && decide (Q < 2048)) with
              | false => rfl
              | true => exact absurd (by simpa using hcd) hc
            clear hd hQ2 hpb hpz hlb hV hY hZ hcp hpl hpin hsb hSz hnl hnz hlin hnin hpk h1 ho h2 hns HPB
            rcases Bool.and_eq_false_iff.1 hcc with t1 | t2
            · clear hcc hc
              go_wp2_with fail
              refine (H1.out _).mono ?_
              rintro e w5 ⟨rfl, hb5⟩
              have HB5 := Aside0.mk (below_step HBR.out hb5)
              clear hb5
              go_wp2_with fail
              refine (H2.out _).mono ?_
              rintro e w6 ⟨rfl, hb6⟩
              have HB6 := Aside0.mk (below_step HB5.out hb6)
              clear hb6
              go_wp2_with fail
              go_quiet (fail)
              go_wp2_with fail
              go_ret
              exact ⟨rfl, pw_below_drewN HB6.out _⟩
            · clear hcc hc
              cases t1 : decide ((i : Int) ≤ 11)
              all_goals
                go_wp2_with fail
                refine (H1.out _).mono ?_
                rintro e w5 ⟨rfl, hb5⟩
                have HB5 := Aside0.mk (below_step HBR.out hb5)
                clear hb5
                go_wp2_with fail
                refine (H2.out _).mono ?_
                rintro e w6 ⟨rfl, hb6⟩
                have HB6 := Aside0.mk (below_step HB5.out hb6)
                clear hb6
                go_wp2_with fail
                go_quiet (fail)
                go_wp2_with fail
                go_ret
                exact ⟨rfl, pw_below_drewN HB6.out _⟩
end Go.Proofs.Ytpceignbgnekmaa.Sq
