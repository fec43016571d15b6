/- Plain: the reader and the document's Read tell the same of any bytes. -/
import Derived.Test.YtkdkdjhdoplicaaItE
namespace Go.Proofs.Ytkdkdjhdoplicaa.It
open Go.RowKit Go.Proofs.YtkdkdjhdoplicaaW.PrintWords Go.Proofs.YtkdkdjhdoplicaaW.PrintLast Go.Proofs.YtkdkdjhdoplicaaW.PrintMore

theorem ev_one {α : Type} {g : Nat → Option α} {a b : α} (h : Ev g a) (k : Ev g b) : a = b := by
  obtain ⟨K, h⟩ := h
  obtain ⟨K', k⟩ := k
  have h1 := h (max K K') (by omega)
  have h2 := k (max K K') (by omega)
  rw [h1] at h2
  exact Option.some.inj h2
theorem small_s (s : List S43) (hy : ∀ y ∈ s, cnt y ≤ (shw y).length ∧ ((shw y).length ≤ 1000000 → Fit y)) (f : Bool) : cnts s ≤ (shws f s).length ∧ ((shws f s).length ≤ 1000000 → Fits s) := by
  induction s generalizing f with
  | nil => exact ⟨by simp [cnts], fun _ => by simp [Fits]⟩
  | cons x xs ih =>
    obtain ⟨h1, h2⟩ := hy x List.mem_cons_self
    obtain ⟨h3, h4⟩ := ih (fun y h => hy y (List.mem_cons_of_mem _ h)) false
    simp only [shws, cnts, Fits, List.length_append]
    exact ⟨by omega, fun h => ⟨h2 (by omega), h4 (by omega)⟩⟩
theorem rights_mem {s : List S43} (h : rights s = true) : ∀ y ∈ s, right y = true := by
  induction s with
  | nil => intro y hy; cases hy
  | cons x xs ih =>
    simp only [rights, Bool.and_eq_true] at h
    intro y hy
    rcases List.mem_cons.1 hy with rfl | hy
    · exact h.1
    · exact ih h.2 y hy
theorem small_n (n : Nat) : ∀ x, cnt x < n → right x = true → cnt x ≤ (shw x).length ∧ ((shw x).length ≤ 1000000 → Fit x) := by
  induction n with
  | zero => intro x h; omega
  | succ n ih =>
    rintro ⟨t, b, s⟩ hx hr
    simp only [cnt] at hx
    simp only [right, Bool.and_eq_true] at hr
    cases b
    · have hs0 : s = [] := by
        have := hr.1
        simp [flat] at this
        exact this
      subst hs0
      refine ⟨?_, fun _ => by simp [Fit, Fits]⟩
      have := shws_long true [⟨t, false, []⟩]
      simp only [shws, List.length_append, List.length_cons, List.length_nil, if_true] at this
      simp only [cnt, cnts]
      omega
    · obtain ⟨h1, h2⟩ := small_s s (fun y hy => ih y (by have := cnt_mem hy; omega) (rights_mem hr.2 y hy)) true
      have h3 := shws_long true s
      rw [shw, if_pos rfl]
      simp only [cnt, Fit, List.length_cons, List.length_append, List.length_nil]
      exact ⟨by omega, fun h => ⟨by omega, h2 (by omega)⟩⟩
theorem small {x : S43} (hr : right x = true) (hl : (shw x).length ≤ 4000) : cnt x ≤ 4000 ∧ Fit x := by
  obtain ⟨h1, h2⟩ := small_n (cnt x + 1) x (by omega) hr
  exact ⟨by omega, h2 (by omega)⟩
def rno : ByteArray × Bool × List S43 × Int := (⟨#[]⟩, false, [], 3)
theorem read_end (l : List UInt8) (x : S43) (hf : Fit x) (hc : cnt x ≤ 1000000) (hp : Ev (fun k => hatchwayref08_parse.f k (bs l) 0 1) (x.f0, x.f1, x.f2, (l.length : Int))) : Ev (fun k => hatchwayref08_Read.f k (bs l)) (if may x = true then (x.f0, x.f1, x.f2, 0) else rno) := by
  unfold hatchwayref08_Read.f
  refine Ev.bind hp ?_
  refine Ev.congr (fun k => if_pos (by rw [bs_size])) ?_
  refine Ev.bind (may_ev x hf hc) ?_
  by_cases h : may x = true
  · rw [h]
    exact Ev.congr (f := fun _ => some (x.f0, x.f1, x.f2, 0)) (fun k => if_pos rfl) (evq (Ev.now _) (by rw [if_pos rfl]))
  · have hf' : may x = false := by simpa using h
    rw [hf']
    exact Ev.congr (f := fun _ => some rno) (fun k => if_neg (by simp)) (evq (Ev.now _) (by rw [if_neg (by simp)]))
theorem read_no (l : List UInt8) (x : S43) (next : Int) (hn : next ≠ (l.length : Int)) (hp : Ev (fun k => hatchwayref08_parse.f k (bs l) 0 1) (x.f0, x.f1, x.f2, next)) : Ev (fun k => hatchwayref08_Read.f k (bs l)) rno := by
  unfold hatchwayref08_Read.f
  refine Ev.bind hp ?_
  exact Ev.congr (f := fun _ => some rno) (fun k => if_neg (by rw [bs_size]; exact hn)) (Ev.now _)
theorem ref_total (l : List UInt8) (hl : l.length ≤ 4000) : Ev (fun k => hatchwayref08_Read.f k (bs l)) rno ∨ ∃ x, may x = true ∧ l = shw x ∧ Ev (fun k => hatchwayref08_Read.f k (bs l)) (x.f0, x.f1, x.f2, 0) := by
  obtain ⟨x, next, hp, hn⟩ := parse_total l hl (l.length + 1) 0 (by omega) (by omega) 1 (by omega) (by omega)
  rcases hn with rfl | ⟨n, rfl, k1, k2, k3, k4, k5⟩
  · exact .inl (read_no l x (-1) (by omega) hp)
  · by_cases h : n = l.length
    · subst h
      rw [List.drop_zero, List.drop_length, List.append_nil] at k3
      obtain ⟨h1, h2⟩ := small k4 (by rw [← k3]; exact hl)
      have hE := read_end l x h2 (by omega) hp
      by_cases hm : may x = true
      · rw [if_pos hm] at hE
        exact .inr ⟨x, hm, k3, hE⟩
      · rw [if_neg hm] at hE
        exact .inl hE
    · exact .inl (read_no l x n (by omega) hp)
theorem ref_good {x : S43} (hm : may x = true) (hl : (shw x).length ≤ 4000) : Ev (fun k => hatchwayref08_Read.f k (bs (shw x))) (x.f0, x.f1, x.f2, 0) := by
  have hm' := hm
  simp only [may, Bool.and_eq_true, decide_eq_true_eq] at hm'
  obtain ⟨h1, h2⟩ := small hm'.1.1 hl
  have hp := parse_read (shw x) hl (cnt x + 1) x (by omega) hm'.1.1 0 1 [] (.inl rfl) (by omega) (by omega) (by omega) (by simp)
  rw [Nat.zero_add] at hp
  have := read_end (shw x) x h2 (by omega) hp
  rwa [if_pos hm] at this
/-- of any bytes: both read the same item, whose line they are; or both refuse -/
theorem both (s : ByteArray) (hs : s.size ≤ 4000) :
    (∃ x k k' r5, may x = true ∧ s = bs (shw x) ∧ (shw x).length ≤ 4000 ∧ Fit x ∧ item_reader_item.f k s 0 false 1 = some (x.f0, x.f1, x.f2, ⟨#[]⟩, r5, false) ∧ hatchwayref08_Read.f k' s = some (x.f0, x.f1, x.f2, 0)) ∨
    (∃ k k' r1 r2 r3 r4 r5 r6, item_reader_item.f k s 0 false 1 = some (r1, r2, r3, r4, r5, r6) ∧ (r6 = true ∨ r4.size ≠ 0) ∧ hatchwayref08_Read.f k' s = some rno) := by
  obtain ⟨l, hl⟩ : ∃ l, s.data.toList = l := ⟨_, rfl⟩
  have e : s = bs l := by rw [← hl]; exact bs_data s
  have hll : l.length ≤ 4000 := by rw [← hl, Array.length_toList]; exact hs
  subst e
  rcases ref_total l hll with hE | ⟨x, hm, hx, hE⟩
  · obtain ⟨x, r, it', bad, k1, k2, k3, k4⟩ := item_total (l.length + 1) l (by omega) 1 0 (by omega) (by omega) (by omega) hll
    obtain ⟨k, hk⟩ := k4.rounds
    obtain ⟨k', hk'⟩ := hE.rounds
    refine .inr ⟨k, k', _, _, _, _, _, _, hk, ?_, hk'⟩
    cases bad
    · by_cases hr : r = []
      · obtain ⟨e1, e2, e3, e4, e5, e6⟩ := k3 rfl
        rw [hr, List.append_nil] at e1
        have hm : may x = true := by
          simp only [may, Bool.and_eq_true, decide_eq_true_eq]
          exact ⟨⟨e2, by omega⟩, by omega⟩
        have hg := ref_good hm (by rw [← e1]; exact hll)
        rw [← e1] at hg
        have := ev_one hE hg
        simp [rno] at this
      · exact .inr (bs_ne hr)
    · exact .inl rfl
  · have hm' := hm
    simp only [may, Bool.and_eq_true, decide_eq_true_eq] at hm'
    obtain ⟨k', hk'⟩ := hE.rounds
    have hlx : (shw x).length ≤ 4000 := by rw [← hx]; exact hll
    have hi := item_read (cnt x + 1) x (by omega) hm'.1.1 1 0 [] (.inl rfl) (by omega) (by omega) (by omega) (by omega)
    rw [List.append_nil] at hi
    obtain ⟨k, hk⟩ := hi.rounds
    refine .inl ⟨x, k, k', ((0 + cnt x : Nat) : Int), hm, by rw [hx], hlx, (small hm'.1.1 hlx).2, ?_, hk'⟩
    rw [hx]
    exact hk
end Go.Proofs.Ytkdkdjhdoplicaa.It
