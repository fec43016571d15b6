/- The law of a wide run, walked. -/
import Derived.Test.YtpceignbgnekmaaSqZ
namespace Go.Proofs.Ytpceignbgnekmaa.Sq
open Go.RowKit Go.Proofs.YtpceignbgnekmaaW.PrintWords Go.Proofs.Ytpceignbgnekmaa.By Go.Proofs.Ytpceignbgnekmaa.Md Go.Proofs.Ytpceignbgnekmaa.Cur Go.Proofs.Ytpceignbgnekmaa.Sn

/-- block g is the row xs, all of it -/
def Row (w : World) (g : Nat) (xs : List Int) : Prop := w.heap[g]? = some (.cells (nums .u8 xs).toArray 5 (0, 0))
theorem Row.string {w : World} {g : Nat} {xs : List Int} (h : Row w g xs) (hl : xs.length ≤ 1000000) : (convert 32 9 (sl g xs.length xs.length)).run Try.prog w = .ok (.string (strOfNums xs)) w :=
  RX.string (B := 0) ⟨Nat.zero_le _, Nat.le_refl _, by simp only [maxLen]; omega, _, _, h, by simp [nums], by rw [List.toList_toArray]; exact List.take_of_length_le (by simp [nums]), .inl rfl⟩
theorem Row.cell {w : World} {g : Nat} {xs : List Int} (h : Row w g xs) (i : Nat) (hi : i < xs.length) : w.cell? ⟨g, i, none⟩ = some (.int .u8 (xs.getD i 0)) := by
  rw [blk_cell h i]
  simp [nums, List.getElem?_eq_getElem hi, List.getD_eq_getElem?_getD]
theorem Row.set {w : World} {g : Nat} {xs : List Int} (h : Row w g xs) (i : Nat) (y : Int) : Row (w.setCell ⟨g, i, none⟩ (.int .u8 y)) g (xs.set i y) := by
  refine blk_put h i _ ?_
  simp [nums, List.map_set]
theorem Row.below {w w' : World} {g : Nat} {xs : List Int} (h : Row w g xs) (hb : Below w.heap.size w w') : Row w' g xs := (Mod.of_below (fun _ => False) hb).blk h (fun h => h)

theorem made_row (w : World) (n : Nat) (hn : n ≤ 65535) : (Instr.makeSlice 32 (.int .i64 n) (.int .i64 n)).run Try.prog w = .ok (sl w.heap.size n n) (w.alloc (.cells (nums .u8 (List.replicate n 0)).toArray 5)) := by
  obtain ⟨i0, hi, hz⟩ := Option.map_eq_some_iff.1 info5
  simp only [Prod.mk.injEq] at hz
  obtain ⟨hz0, hz1, hz2⟩ := hz
  have := run_makeSlice (P := Try.prog) w 32 5 i0 (.int .u8 0) Try.underlying32 hi hz0 .i64 .i64 n n (by omega) (by omega) (by rw [hz1]; omega) (by rw [hz2]; omega) (by omega)
  rw [this, hz1, Int.toNat_natCast]
  have e : madeCells (Value.int IntKind.u8 0).cells (n * 1) = (nums .u8 (List.replicate n 0)).toArray := by
    apply Array.ext'
    simp only [madeCells, nums, Nat.mul_one]
    rw [Array.toList_map, List.map_replicate, List.eq_replicate_iff]
    refine ⟨by simp, ?_⟩
    intro b hb
    obtain ⟨x, _, rfl⟩ := List.mem_map.1 hb
    have : (Value.int IntKind.u8 0).cells = #[Value.int IntKind.u8 0] := rfl
    rw [this]
    have hx : x % (#[Value.int IntKind.u8 0] : Array Value).size = 0 := Nat.mod_one x
    rw [hx]
    rfl
  rw [e]

set_option maxRecDepth 100000 in
set_option maxHeartbeats 2000000 in
theorem wide (s : ByteArray) (n : Int) (hs : s.size ≤ 140737488351232) (hw : (Lit.int .u16 n).wf = true) (w : World) : Calls Try.prog 8 #[.string s, .int .u16 n] w fun e w' => e = .returned (.bool true) ∧ Below w.heap.size w w' := by
  have HB := Aside0.mk (Below.refl w.heap.size w)
  obtain ⟨x0, x1⟩ : 0 ≤ n ∧ n ≤ 65535 := by simpa [Lit.wf, IntKind.min, IntKind.max, IntKind.signed, IntKind.bits] using hw
  obtain ⟨m, rfl⟩ := Int.eq_ofNat_of_zero_le x0
  have hm : m ≤ 65535 := by omega
  have hcs : ((s.size : Int) == 0) = true ∨ (((s.size : Int) == 0) = false ∧ decide (300 < (s.size : Int)) = true) ∨ (((s.size : Int) == 0) = false ∧ decide (300 < (s.size : Int)) = false) := by
    by_cases h1 : s.size = 0
    · exact .inl (beq_iff_eq.2 (by omega))
    · have h2 : ((s.size : Int) == 0) = false := beq_eq_false_iff_ne.mpr (by omega)
      by_cases h3 : 300 < s.size
      · exact .inr (.inl ⟨h2, decide_eq_true (by omega)⟩)
      · exact .inr (.inr ⟨h2, decide_eq_false (by omega)⟩)
  rcases hcs with h1 | ⟨h1, h2⟩ | ⟨h1, h2⟩
  · go_enter Try.func8, Try.ntmps8
    go_wp2_with fail
    refine (alive _).mono ?_
    rintro e w1 ⟨rfl, hb⟩
    have HB1 := Aside0.mk (below_step HB.out hb)
    clear hb HB
    go_wp2_with fail
    go_ret
    exact ⟨rfl, HB1.out⟩
  · go_enter Try.func8, Try.ntmps8
    go_wp2_with fail
    refine (alive _).mono ?_
    rintro e w1 ⟨rfl, hb⟩
    have HB1 := Aside0.mk (below_step HB.out hb)
    clear hb HB
    go_wp2_with fail
    go_ret
    exact ⟨rfl, HB1.out⟩
  · have hs1 : 1 ≤ s.size := by have := beq_eq_false_iff_ne.mp h1; omega
    have hs2 : s.size ≤ 300 := by have := of_decide_eq_false h2; omega
    have hmk := fun W => made_row W m hm
    go_enter Try.func8, Try.ntmps8
    go_wp2_with fail
    refine (alive _).mono ?_
    rintro e w1 ⟨rfl, hb⟩
    have HB1 := Aside0.mk (below_step HB.out hb)
    have hz1 : w.heap.size ≤ w1.heap.size := hb.size
    clear hb HB
    have HR0 := Aside0.mk (show Row (w1.alloc (.cells (nums .u8 (List.replicate m 0)).toArray 5)) w1.heap.size (List.replicate m 0) from blk_new w1 _)
    have HB2 := Aside0.mk (HB1.out.alloc hz1 (.cells (nums .u8 (List.replicate m 0)).toArray 5))
    go_wp2_with fail
    obtain ⟨g, hg⟩ : ∃ g, w1.heap.size = g := ⟨_, rfl⟩
    rw [hg] at HR0 hz1 ⊢
    generalize w1.alloc (.cells (nums .u8 (List.replicate m 0)).toArray 5) = w2 at HR0 HB2 ⊢
    clear HB1 hg hmk
    go_loopg [6] m (fun kq v6 wr => ∃ (i : Nat) (xs : List Int), v6 = .int .i64 i ∧ i ≤ m ∧ xs.length = m ∧ Aside0 (InByte xs) ∧ Aside0 (kq = m - i) ∧ Aside0 (Row wr g xs) ∧ Aside0 (Below w.heap.size w wr))
    case atStart => exact ⟨0, List.replicate m 0, by go_num, Nat.zero_le _, by simp, ⟨fun x hx => by rw [(List.mem_replicate.1 hx).2]; decide⟩, ⟨rfl⟩, HR0, HB2⟩
    case round =>
      clear HR0 HB2
      obtain ⟨i, xs, rfl, him, hxl, HI, HK, HR, HBR⟩ := hrel
      by_cases hlt : i < m
      · have hltb : decide (i < m) = true := decide_eq_true hlt
        have hr2 : i % s.size < s.size := Nat.mod_lt _ (by omega)
        obtain ⟨y, hy⟩ : ∃ y : Int, ((s[i % s.size]'hr2).toNat : Int) = y := ⟨_, rfl⟩
        have hy0 : 0 ≤ y ∧ y < 256 := by have := (s[i % s.size]'hr2).toNat_lt; omega
        obtain ⟨r, hr⟩ : ∃ r : Nat, i % s.size = r := ⟨_, rfl⟩
        have hrs : r < s.size := by omega
        have e2 : ∀ h : r < s.size, ((s[r]'h).toNat : Int) = y := fun _ => by subst hr; exact hy
        have e5 : (i : Int) % (s.size : Int) = (r : Int) := by rw [← hr]; rfl
        have c1 := HR.out.cell i (by omega)
        have f1 := blk_frozen HR.out i
        clear hr hr2 hy
        go_wp2_with fail
        go_roundg (m - (i + 1))
        case measure => have := HK.out; omega
        case rel =>
          refine ⟨i + 1, xs.set i y, by go_num, by omega, by rw [List.length_set]; exact hxl, ⟨fun x hx => ?_⟩, ⟨rfl⟩, ⟨HR.out.set i y⟩, ⟨HBR.out.setCell hz1 _⟩⟩
          rcases List.mem_or_eq_of_mem_set hx with h | h
          · exact HI.out x h
          · rw [h]; exact hy0
      · have hltb : decide (i < m) = false := decide_eq_false hlt
        obtain ⟨b, hb⟩ : ∃ b, strOfNums xs = b := ⟨_, rfl⟩
        have hbz : b.size = m := by rw [← hb, strOfNums_size]; exact hxl
        have hl := packF_len b (by omega)
        obtain ⟨pk, hpk⟩ : ∃ pk, strOfNums (packF b) = pk := ⟨_, rfl⟩
        have hpz : pk.size = (packF b).length := by rw [← hpk, strOfNums_size]
        have ho := out_pack b (by omega) (m : Int) (by omega)
        have h1' := pack_calls b (by omega)
        rw [hpk] at ho h1'
        have h2' := unpack_nil pk (by omega) (m : Int)
        rw [ho] at h2'
        obtain ⟨bd, hbd⟩ : ∃ bd : Int, ((m + m / 32 + 8 : Nat) : Int) = bd := ⟨_, rfl⟩
        have h5 := bound_calls m (by omega)
        rw [hbd] at h5
        have t4 : decide ((pk.size : Int) ≤ bd) = true := decide_eq_true (by rw [hbz] at hl; omega)
        have hcv := fun W (h : Row W g xs) => h.string (by omega)
        rw [hb, hxl] at hcv
        have hc0 := hcv _ HR.out
        have H1 := Aside0.mk h1'
        have H2 := Aside0.mk h2'
        have H5 := Aside0.mk h5
        have HCV := Aside0.mk hcv
        clear h1' h2' h5 hcv ho hpk hl hpz hbd hb hbz
        go_wp2_with fail
        refine (H1.out _).mono ?_
        rintro e w3 ⟨rfl, hb3⟩
        have HR3 := Aside0.mk (HR.out.below hb3)
        have HB3 := Aside0.mk (below_step HBR.out hb3)
        clear hb3 HR HBR hc0
        go_wp2_with fail
        refine (H2.out _).mono ?_
        rintro e w4 ⟨rfl, hb4⟩
        have HB4 := Aside0.mk (below_step HB3.out hb4)
        have hc4 := HCV.out _ (HR3.out.below hb4)
        clear hb4 HR3 HB3
        go_wp2_with fail
        refine (H5.out _).mono ?_
        rintro e w5 ⟨rfl, rfl⟩
        go_wp2_with fail
        go_ret
        exact ⟨rfl, HB4.out⟩
end Go.Proofs.Ytpceignbgnekmaa.Sq
