/- Plain: the reader reads the line of an item as the item. -/
import Derived.Test.YtkdkdjhdoplicaaItQ
import Derived.Test.YtkdkdjhdoplicaaItH2
namespace Go.Proofs.Ytkdkdjhdoplicaa.It
open Go.RowKit Go.Proofs.YtkdkdjhdoplicaaW.PrintWords Go.Proofs.YtkdkdjhdoplicaaW.PrintLast Go.Proofs.YtkdkdjhdoplicaaW.PrintMore

theorem bs_extract (l : List UInt8) (a b : Nat) : (bs l).extract a b = bs ((l.drop a).take (b - a)) := by
  apply ByteArray.ext
  simp [bs]
theorem bs_toList (l : List UInt8) : (bs l).toList = l := by rw [Go.Lib.toList_data]; simp [bs]
theorem bs_data (s : ByteArray) : s = bs s.data.toList := by apply ByteArray.ext; simp [bs]
theorem bt_bs {l : List UInt8} {i : Nat} (h : i < l.length) : bt (bs l) (i : Int) = ((l[i]'h).toNat : Int) := by
  have h2 : (i : Int).toNat < (bs l).size := by rw [bs_size]; omega
  rw [bt, dif_pos h2]
  simp only [Int.toNat_natCast]
  rfl
theorem prefix_f (l : List UInt8) (c : UInt8) : stringslite_HasPrefix.f (bs l) (bs [c]) = some (decide (l.head? = some c)) := by
  unfold stringslite_HasPrefix.f
  rw [bs_size, bs_size]
  cases l with
  | nil => simp
  | cons a l =>
    simp only [List.length_cons, List.length_nil]
    rw [if_pos (by omega), if_pos (by omega), if_pos (by omega)]
    rw [bs_extract, bs_toList, bs_toList]
    simp
    by_cases h : a = c <;> simp [h]
theorem cut_f (l : List UInt8) (c : UInt8) : strings_CutPrefix.f (bs l) (bs [c]) = some (if l.head? = some c then (bs l.tail, true) else (bs l, false)) := by
  unfold strings_CutPrefix.f stringslite_CutPrefix.f
  rw [prefix_f]
  simp only [Option.bind_some]
  by_cases h : l.head? = some c
  · cases l with
    | nil => simp at h
    | cons a l =>
      rw [if_pos (by simp [h]), if_pos (by omega), if_pos (by rw [bs_size, bs_size]; simp only [List.length_cons, List.length_nil]; omega), if_pos h]
      rw [bs_extract, bs_size, bs_size]
      simp
  · rw [if_neg (by simp [h]), if_neg h]
    rfl
theorem sign_f (l : List UInt8) (it : Int) (bad : Bool) (c : UInt8) : item_reader_sign.f (bs l) it bad (bs [c]) = some (if l.head? = some c then (true, bs l.tail, it, bad) else (false, bs l, it, bad)) := by
  unfold item_reader_sign.f
  rw [cut_f]
  by_cases h : l.head? = some c <;> simp [h]

/-- a digit's value, or -1 -/
def hx (c : UInt8) : Int := Go.Lib.indexByte [48, 49, 50, 51, 52, 53, 54, 55, 56, 57, 97, 98, 99, 100, 101, 102] c
theorem hx_dig (q : Nat) (hq : q < 16) : hx (dig q) = (q : Int) := by
  have : q = 0 ∨ q = 1 ∨ q = 2 ∨ q = 3 ∨ q = 4 ∨ q = 5 ∨ q = 6 ∨ q = 7 ∨ q = 8 ∨ q = 9 ∨ q = 10 ∨ q = 11 ∨ q = 12 ∨ q = 13 ∨ q = 14 ∨ q = 15 := by omega
  rcases this with rfl | rfl | rfl | rfl | rfl | rfl | rfl | rfl | rfl | rfl | rfl | rfl | rfl | rfl | rfl | rfl <;> rfl
theorem index_spec (c : UInt8) : ∀ L : List UInt8, (Go.Lib.indexByte L c = -1 ∧ c ∉ L) ∨ ∃ q, ∃ h : q < L.length, Go.Lib.indexByte L c = (q : Int) ∧ L[q]'h = c
  | [] => .inl ⟨rfl, by simp⟩
  | b :: L => by
    simp only [Go.Lib.indexByte]
    by_cases e : b = c
    · exact .inr ⟨0, by simp, by simp [e], by simp [e]⟩
    · rw [if_neg (by simp [e])]
      rcases index_spec c L with ⟨h1, h2⟩ | ⟨q, hq, h1, h2⟩
      · exact .inl ⟨by rw [h1]; rfl, by simp [h2]; exact fun h => e h.symm⟩
      · refine .inr ⟨q + 1, by simpa using hq, ?_, by simpa using h2⟩
        rw [h1, if_neg (by intro e2; have := of_decide_eq_true e2; omega)]
        omega
theorem hx_all (c : UInt8) : hx c = -1 ∨ ∃ q : Nat, q < 16 ∧ hx c = (q : Int) ∧ c = dig q := by
  rcases index_spec c [48, 49, 50, 51, 52, 53, 54, 55, 56, 57, 97, 98, 99, 100, 101, 102] with ⟨h, _⟩ | ⟨q, hq, h1, h2⟩
  · exact .inl h
  · refine .inr ⟨q, hq, h1, ?_⟩
    rw [← h2, dig, List.getD_eq_getElem?_getD, List.getElem?_eq_getElem hq]
    rfl
theorem dig_ne (q : Nat) (hq : q < 16) : dig q ≠ 40 ∧ dig q ≠ 41 ∧ dig q ≠ 45 ∧ dig q ≠ 32 := by
  have : q = 0 ∨ q = 1 ∨ q = 2 ∨ q = 3 ∨ q = 4 ∨ q = 5 ∨ q = 6 ∨ q = 7 ∨ q = 8 ∨ q = 9 ∨ q = 10 ∨ q = 11 ∨ q = 12 ∨ q = 13 ∨ q = 14 ∨ q = 15 := by omega
  rcases this with rfl | rfl | rfl | rfl | rfl | rfl | rfl | rfl | rfl | rfl | rfl | rfl | rfl | rfl | rfl | rfl <;> decide
/-- what may stand behind an item's line -/
def sep (r : List UInt8) : Prop := r = [] ∨ r.head? = some 32 ∨ r.head? = some 41
theorem index_f (c : UInt8) : strings_IndexByte.f digs (c.toNat : Int) = some (hx c) := by
  unfold strings_IndexByte.f hx
  simp

theorem nums_bs (ts : List UInt8) : strOfNums (ts.map fun c => (c.toNat : Int)) = bs ts := by
  apply ByteArray.ext
  simp [strOfNums, bs, Function.comp_def]
theorem pair_val (c : UInt8) : wrap64 (wrap64 (16 * ((c.toNat / 16 : Nat) : Int)) + ((c.toNat % 16 : Nat) : Int)) % 256 = (c.toNat : Int) := by
  have h := c.toNat_lt
  generalize c.toNat = m at h ⊢
  have e1 : wrap64 (16 * ((m / 16 : Nat) : Int)) = 16 * ((m / 16 : Nat) : Int) := by unfold wrap64; omega
  rw [e1]
  have e2 : wrap64 (16 * ((m / 16 : Nat) : Int) + ((m % 16 : Nat) : Int)) = (m : Int) := by unfold wrap64; omega
  rw [e2]
  omega
/-- the digits of ts are read, whatever may stand behind -/
theorem text_read (it : Int) (r : List UInt8) (hr : sep r) : ∀ (ts a : List UInt8), a.length + ts.length ≤ 1000000 → a ++ ts ≠ [] → Ev (fun k => item_reader_text.l0 k (a.map fun c => (c.toNat : Int)) (bs (hexs ts ++ r)) it false) (bs (a ++ ts), bs r, it, false) := by
  intro ts
  induction ts with
  | nil =>
    intro a ha hn
    simp only [hexs, List.nil_append, List.append_nil] at ha hn ⊢
    have hl : (((a.map fun c => (c.toNat : Int)).length : Int) == 0) = false := by
      cases a with
      | nil => exact absurd rfl hn
      | cons x xs => simp; omega
    refine Ev.step (f := fun _ => some (bs a, bs r, it, false)) (fun k => ?_) (Ev.now _)
    simp only [item_reader_text.l0]
    rw [nums_bs, hl]
    by_cases h2 : 2 ≤ r.length
    · rw [bs_size, if_pos (by omega), if_pos (by omega)]
      match r, h2, hr with
      | x :: y :: r', _, hr =>
        have hxx : hx x = -1 := by
          rcases hr with h | h | h
          · cases h
          · cases h; rfl
          · cases h; rfl
        rw [show bt (bs (x :: y :: r')) 0 = (x.toNat : Int) from bt_bs (i := 0) (by simp), show bt (bs (x :: y :: r')) 1 = (y.toNat : Int) from bt_bs (i := 1) (by simp)]
        rw [index_f, index_f]
        simp only [Option.bind_some]
        rw [if_pos (by simp only [List.length_cons]; omega), if_pos (by rw [hxx]; decide), if_neg (by decide)]
    · rw [bs_size, if_neg (by omega), if_neg (by decide)]
  | cons c ts ih =>
    intro a ha hn
    simp only [List.length_cons] at ha
    have q1 : c.toNat / 16 < 16 := by have := c.toNat_lt; omega
    have q2 : c.toNat % 16 < 16 := by omega
    have hlen : (a.map fun c => (c.toNat : Int)).length < 140737488355328 := by rw [List.length_map]; omega
    have hih := ih (a ++ [c]) (by simp only [List.length_append, List.length_cons, List.length_nil]; omega) (by simp)
    rw [List.append_assoc] at hih
    obtain ⟨L, hL⟩ : ∃ L, hexs (c :: ts) ++ r = L := ⟨_, rfl⟩
    have f0 : bt (bs L) 0 = ((dig (c.toNat / 16)).toNat : Int) := by rw [← hL]; exact bt_bs (i := 0) (by simp [hexs])
    have f1 : bt (bs L) 1 = ((dig (c.toNat % 16)).toNat : Int) := by rw [← hL]; exact bt_bs (i := 1) (by simp [hexs])
    have hz : (bs L).size = (hexs ts ++ r).length + 2 := by rw [← hL, bs_size]; rfl
    have fe : (bs L).extract 2 (bs L).size = bs (hexs ts ++ r) := by
      rw [hz, ← hL, bs_extract]
      show bs (List.take ((hexs ts ++ r).length + 2 - 2) (hexs ts ++ r)) = _
      rw [Nat.add_sub_cancel, List.take_length]
    have g1 : ((bs L).size : Int) ≥ 2 := by omega
    have g2 : (0 : Int) < ((bs L).size : Int) := by omega
    have g3 : (1 : Int) < ((bs L).size : Int) := by omega
    have n1 : ¬ ((c.toNat / 16 : Nat) : Int) < 0 := by omega
    have n2 : ¬ ((c.toNat % 16 : Nat) : Int) < 0 := by omega
    rw [hL]
    refine Ev.step (f := fun k => item_reader_text.l0 k ((a ++ [c]).map fun c => (c.toNat : Int)) (bs (hexs ts ++ r)) it false) (fun k => ?_) hih
    simp only [item_reader_text.l0]
    rw [f0, f1, index_f, index_f, hx_dig _ q1, hx_dig _ q2]
    simp only [Option.bind_some]
    rw [if_pos g1, if_pos g2, if_pos g3, if_neg n1, if_neg n2, if_pos hlen, if_pos g1, pair_val, fe]
    simp

theorem text_good (it : Int) (t : ByteArray) (s : List S43) (r : List UInt8) (hr : sep r) (ht : t.size ≤ 1000000) : Ev (fun k => item_reader_text.f k (bs (shw ⟨t, false, s⟩ ++ r)) it false) (t, bs r, it, false) := by
  by_cases h : t.size = 0
  · have hs : shw ⟨t, false, s⟩ = [45] := by rw [shw, if_neg (by simp), if_pos h]
    have ht0 : t = ⟨#[]⟩ := by
      cases t with
      | mk d => simp only [ByteArray.size] at h; rw [Array.eq_empty_of_size_eq_zero h]
    rw [hs]
    refine Ev.congr (f := fun _ => some (⟨#[]⟩, bs r, it, false)) (fun k => ?_) (evq (Ev.now _) (by rw [ht0]))
    simp only [item_reader_text.f]
    rw [show (⟨#[45]⟩ : ByteArray) = bs [45] from rfl, sign_f]
    simp
  · have hs : shw ⟨t, false, s⟩ = hexs t.data.toList := by rw [shw, if_neg (by simp), if_neg h]
    have hl : t.data.toList.length = t.size := by rw [Array.length_toList]; rfl
    have hne : t.data.toList ≠ [] := fun e => by rw [e] at hl; simp at hl; omega
    rw [hs]
    have hh : (hexs t.data.toList ++ r).head? ≠ some 45 := by
      cases e : t.data.toList with
      | nil => exact absurd e hne
      | cons c ts =>
        simp only [hexs, List.cons_append, List.head?_cons]
        intro e2
        have := (dig_ne (c.toNat / 16) (by have := c.toNat_lt; omega)).2.2.1
        exact this (Option.some.inj e2)
    refine Ev.congr (f := fun k => item_reader_text.l0 k (([] : List UInt8).map fun c => (c.toNat : Int)) (bs (hexs t.data.toList ++ r)) it false) (fun k => ?_) (evq (text_read it r hr t.data.toList [] (by simp only [List.length_nil]; omega) (by simpa using hne)) (by rw [List.nil_append, ← bs_data]))
    simp only [item_reader_text.f]
    rw [show (⟨#[45]⟩ : ByteArray) = bs [45] from rfl, sign_f, if_neg hh]
    simp

/-- what an item's line begins with -/
theorem shw_head (x : S43) (r : List UInt8) : (shw x ++ r).head? ≠ some 41 ∧ (shw x ++ r).head? ≠ some 32 ∧ (x.f1 = false → (shw x ++ r).head? ≠ some 40) := by
  cases x with
  | mk t b s =>
    cases b
    · by_cases h : t.size = 0
      · rw [shw, if_neg (by simp), if_pos h]; simp
      · have hl : t.data.toList.length = t.size := by rw [Array.length_toList]; rfl
        rw [shw, if_neg (by simp), if_neg h]
        cases e : t.data.toList with
        | nil => rw [e] at hl; simp at hl; omega
        | cons c ts =>
          simp only [hexs, List.cons_append, List.head?_cons]
          obtain ⟨d1, d2, d3, d4⟩ := dig_ne (c.toNat / 16) (by have := c.toNat_lt; omega)
          exact ⟨fun e => d2 (Option.some.inj e), fun e => d4 (Option.some.inj e), fun _ e => d1 (Option.some.inj e)⟩
    · rw [shw, if_pos rfl]; simp

theorem shws_long (f : Bool) (s : List S43) : s.length ≤ (shws f s).length := by
  induction s generalizing f with
  | nil => simp
  | cons x xs ih =>
    have h1 := ih false
    have h2 : 1 ≤ (shw x).length := by
      cases x with
      | mk t b s =>
        cases b
        · by_cases h : t.size = 0
          · rw [shw, if_neg (by simp), if_pos h]; simp
          · have hl : t.data.toList.length = t.size := by rw [Array.length_toList]; rfl
            rw [shw, if_neg (by simp), if_neg h, hexs_len, hl]; omega
        · rw [shw, if_pos rfl]; simp
    simp only [shws, List.length_append, List.length_cons]
    omega
theorem shws_sn (f : Bool) (a : List S43) (x : S43) : shws f (a ++ [x]) = shws f a ++ ((if f = true ∧ a = [] then [] else [32]) ++ shw x) := by
  induction a generalizing f with
  | nil => cases f <;> simp [shws]
  | cons y ys ih => simp [shws, ih]
theorem shws_app (f : Bool) (a b : List S43) : ∃ r, shws f (a ++ b) = shws f a ++ r := by
  induction a generalizing f with
  | nil => exact ⟨shws f b, by simp [shws]⟩
  | cons y ys ih =>
    obtain ⟨r, hr⟩ := ih false
    exact ⟨r, by simp [shws, hr]⟩
theorem shws_tk (f : Bool) (s : List S43) (i : Nat) : (shws f (s.take i)).length ≤ (shws f s).length := by
  obtain ⟨r, hr⟩ := shws_app f (s.take i) (s.drop i)
  rw [List.take_append_drop] at hr
  rw [hr, List.length_append]
  omega
theorem item_loop (n : Nat) (ih : ∀ (x : S43), cnt x < n → right x = true → ∀ (d it : Nat) (r : List UInt8), sep r → 1 ≤ d → d + dp x ≤ 17 → it + cnt x ≤ 1024 → (shw x).length ≤ 1000000 → Ev (fun k => item_reader_item.f k (bs (shw x ++ r)) (it : Int) false (d : Int)) (x.f0, x.f1, x.f2, bs r, ((it + cnt x : Nat) : Int), false)) (s : List S43) (hs : rights s = true) (hc : cnts s < n) (d : Nat) (hd1 : 1 ≤ d) (hd : d + 1 + dps s ≤ 17 ∨ s = []) (r : List UInt8) (hlen : (shws true s).length ≤ 1000000) :
    ∀ (m i it : Nat), m + i = s.length → it + cnts (s.drop i) ≤ 1024 → Ev (fun k => item_reader_item.l0 k (d : Int) (bs (shws (decide (i = 0)) (s.drop i) ++ 41 :: r)) (it : Int) false ⟨#[]⟩ true (s.take i)) (⟨#[]⟩, true, s, bs r, ((it + cnts (s.drop i) : Nat) : Int), false) := by
  intro m
  induction m with
  | zero =>
    intro i it hm hit
    rw [List.drop_eq_nil_of_le (by omega), List.take_of_length_le (by omega)]
    refine Ev.step (f := fun _ => some (⟨#[]⟩, true, s, bs r, (it : Int), false)) (fun k => ?_) (evq (Ev.now _) (by simp [cnts]))
    simp only [item_reader_item.l0]
    rw [show (⟨#[41]⟩ : ByteArray) = bs [41] from rfl, sign_f]
    simp [shws]
  | succ m ihm =>
    intro i it hm hit
    have hlt : i < s.length := by omega
    have hdr := cnts_drop hlt
    have hcg := cnt_get hlt
    have hpos := cnt_pos s[i]
    have hry : right s[i] = true ∧ dp s[i] ≤ dps s := by
      have hz : ∀ (l : List S43), rights l = true → ∀ y ∈ l, right y = true ∧ dp y ≤ dps l := by
        intro l
        induction l with
        | nil => intro _ y hy; cases hy
        | cons x xs ihl =>
          intro hl y hy
          simp only [rights, Bool.and_eq_true] at hl
          simp only [dps]
          rcases List.mem_cons.1 hy with rfl | hy
          · exact ⟨hl.1, by omega⟩
          · have := ihl hl.2 y hy; exact ⟨this.1, by omega⟩
      exact hz s hs _ (List.getElem_mem hlt)
    have hd2 : d + 1 + dps s ≤ 17 := by
      rcases hd with h | h
      · exact h
      · rw [h] at hlt; simp at hlt
    have hly : (shw s[i]).length ≤ 1000000 := by
      have h1 := shws_tk true s (i + 1)
      rw [List.take_succ_eq_append_getElem hlt, shws_sn, List.length_append, List.length_append] at h1
      omega
    have hlen2 : (s.take i).length < 2932031007402 := by
      have h1 := cnts_len s
      have h2 := cnts_append (s.take i) (s.drop i)
      rw [List.take_append_drop] at h2
      have h3 := cnts_len (s.drop i)
      rw [List.length_drop] at h3
      have h4 := shws_long true s
      rw [List.length_take]
      omega
    obtain ⟨Z, hZ⟩ : ∃ Z, shws false (s.drop (i + 1)) ++ 41 :: r = Z := ⟨_, rfl⟩
    have hsep : sep Z := by
      rw [← hZ]
      cases s.drop (i + 1) with
      | nil => exact .inr (.inr (by simp [shws]))
      | cons x xs => exact .inr (.inl (by simp [shws]))
    have hih := ihm (i + 1) (it + cnt s[i]) (by omega) (by omega)
    rw [show decide (i + 1 = 0) = false from rfl, hZ, List.take_succ_eq_append_getElem hlt] at hih
    have hd9 : d ≤ 1000000000 := by omega
    have j1 : cnt s[i] < n := by omega
    have j2 : 1 ≤ d + 1 := by omega
    have j3 : d + 1 + dp s[i] ≤ 17 := by omega
    have j4 : it + cnt s[i] ≤ 1024 := by omega
    have hj : Ev (fun k => item_reader_item.j2 k (d : Int) false (bs (shw s[i] ++ Z)) (it : Int) false ⟨#[]⟩ true (s.take i)) (⟨#[]⟩, true, s, bs r, ((it + cnts (s.drop i) : Nat) : Int), false) := by
      refine Ev.step (f := fun k => (item_reader_item.f k (bs (shw s[i] ++ Z)) (it : Int) false ((d + 1 : Nat) : Int)).bind fun q => item_reader_item.l0 k (d : Int) q.2.2.2.1 q.2.2.2.2.1 q.2.2.2.2.2 ⟨#[]⟩ true (s.take i ++ [(⟨q.1, q.2.1, q.2.2.1⟩ : S43)])) (fun k => ?_) ?_
      · simp only [item_reader_item.j2]
        rw [wid1 d hd9]
        simp only [if_pos hlen2]
        simp
      · refine Ev.bind (ih s[i] j1 hry.1 (d + 1) it Z hsep j2 j3 j4 hly) ?_
        refine evq ?_ (show _ = _ by rw [hdr, ← Nat.add_assoc])
        show Ev (fun k => item_reader_item.l0 k (d : Int) (bs Z) ((it + cnt s[i] : Nat) : Int) false ⟨#[]⟩ true (s.take i ++ [(⟨s[i].f0, s[i].f1, s[i].f2⟩ : S43)])) _
        rw [t43]
        exact hih
    rw [List.drop_eq_getElem_cons hlt]
    by_cases h0 : i = 0
    · have e : shws (decide (i = 0)) (s[i] :: s.drop (i + 1)) ++ 41 :: r = shw s[i] ++ Z := by rw [← hZ]; simp [shws, h0]
      rw [e]
      refine Ev.step (f := fun k => item_reader_item.j2 k (d : Int) false (bs (shw s[i] ++ Z)) (it : Int) false ⟨#[]⟩ true (s.take i)) (fun k => ?_) ?_
      · simp only [item_reader_item.l0]
        rw [show (⟨#[41]⟩ : ByteArray) = bs [41] from rfl, sign_f, if_neg (shw_head s[i] Z).1]
        simp [h0]
      · rwa [List.drop_eq_getElem_cons hlt] at hj
    · have e : shws (decide (i = 0)) (s[i] :: s.drop (i + 1)) ++ 41 :: r = 32 :: (shw s[i] ++ Z) := by rw [← hZ]; simp [shws, h0]
      rw [e]
      refine Ev.step (f := fun k => item_reader_item.j2 k (d : Int) false (bs (shw s[i] ++ Z)) (it : Int) false ⟨#[]⟩ true (s.take i)) (fun k => ?_) ?_
      · simp only [item_reader_item.l0]
        rw [show (⟨#[41]⟩ : ByteArray) = bs [41] from rfl, sign_f, if_neg (by simp)]
        simp only [Option.bind_some]
        rw [if_neg (by simp), if_pos (by rw [List.length_take]; omega), show (⟨#[32]⟩ : ByteArray) = bs [32] from rfl, sign_f, if_pos (by simp)]
        simp
      · rwa [List.drop_eq_getElem_cons hlt] at hj
theorem item_read (n : Nat) : ∀ (x : S43), cnt x < n → right x = true → ∀ (d it : Nat) (r : List UInt8), sep r → 1 ≤ d → d + dp x ≤ 17 → it + cnt x ≤ 1024 → (shw x).length ≤ 1000000 → Ev (fun k => item_reader_item.f k (bs (shw x ++ r)) (it : Int) false (d : Int)) (x.f0, x.f1, x.f2, bs r, ((it + cnt x : Nat) : Int), false) := by
  induction n with
  | zero => intro x h; omega
  | succ n ih =>
    rintro ⟨t, b, s⟩ hx hri d it r hr hd1 hd hit hlen
    have hpos := cnt_pos ⟨t, b, s⟩
    have hdp := dp_pos ⟨t, b, s⟩
    simp only [right, Bool.and_eq_true] at hri
    have hw := wid1 it (by omega)
    have hd16 : ¬ (d : Int) > 16 := by omega
    have hit2 : decide (((it + 1 : Nat) : Int) > 1024) = false := decide_eq_false (by omega)
    have h1 := shw_head ⟨t, b, s⟩ r
    refine Ev.step (f := fun k => item_reader_item.j0 k (d : Int) (bs (shw ⟨t, b, s⟩ ++ r)) ((it + 1 : Nat) : Int) false) (fun k => ?_) ?_
    · simp only [item_reader_item.f]
      rw [if_neg (by simp), if_neg hd16, hw, hit2]
    clear hw
    cases b
    · have hs0 : s = [] := by
        have := hri.1
        simp [flat] at this
        exact this
      have hc1 : cnt ⟨t, false, s⟩ = 1 := by rw [hs0]; rfl
      have ht : t.size ≤ 1000000 := by
        by_cases h : t.size = 0
        · omega
        · have hl : t.data.toList.length = t.size := by rw [Array.length_toList]; rfl
          rw [shw, if_neg (by simp), if_neg h, hexs_len, hl] at hlen
          omega
      refine Ev.step (f := fun k => (item_reader_text.f k (bs (shw ⟨t, false, s⟩ ++ r)) ((it + 1 : Nat) : Int) false).bind fun q => some (q.1, false, [], q.2.1, q.2.2.1, q.2.2.2)) (fun k => ?_) ?_
      · simp only [item_reader_item.j0]
        rw [if_neg (by simp), show (⟨#[40]⟩ : ByteArray) = bs [40] from rfl, sign_f, if_neg (h1.2.2 rfl)]
        simp
      · refine Ev.bind (text_good _ t s r hr ht) (evq (Ev.now _) ?_)
        rw [hc1, hs0]
    · have ht0 : t = ⟨#[]⟩ := by
        have := hri.1
        simp only [flat, if_true, decide_eq_true_eq] at this
        cases t with
        | mk d => simp only [ByteArray.size] at this; rw [Array.eq_empty_of_size_eq_zero this]
      subst ht0
      have hs : shw ⟨⟨#[]⟩, true, s⟩ = 40 :: (shws true s ++ [41]) := by rw [shw, if_pos rfl]
      rw [hs] at hlen ⊢
      simp only [List.length_cons, List.length_append, List.length_nil] at hlen
      simp only [cnt, dp] at hx hd hit ⊢
      refine Ev.step (f := fun k => item_reader_item.l0 k (d : Int) (bs (shws (decide (0 = 0)) (s.drop 0) ++ 41 :: r)) ((it + 1 : Nat) : Int) false ⟨#[]⟩ true (s.take 0)) (fun k => ?_) ?_
      · simp only [item_reader_item.j0]
        rw [if_neg (by simp), show (⟨#[40]⟩ : ByteArray) = bs [40] from rfl, sign_f, if_pos (by simp)]
        simp
      · refine evq (item_loop n ih s hri.2 (by omega) d hd1 (.inl (by omega)) r (by omega) s.length 0 (it + 1) (by omega) (by rw [List.drop_zero]; omega)) ?_
        rw [List.drop_zero, Nat.add_assoc]
end Go.Proofs.Ytkdkdjhdoplicaa.It
