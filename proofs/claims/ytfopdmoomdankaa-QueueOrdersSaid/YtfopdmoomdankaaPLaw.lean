/- What the queue's laws need of lists. -/
import Derived.Test.YtfopdmoomdankaaQLives
set_option linter.unusedVariables false
namespace Go.Q
open Go.Sy (iat putE putL putZ nextB nextX nextL)

/-- Is such a due taken? -/
def fit (d : Int) : Bool := decide (0 ≤ d ∧ d ≤ 1099511627776)
/-- What has been put behind the first j dues. -/
def acc (dues : List Int) : Nat → List Itm
  | 0 => []
  | j + 1 => if fit (iat dues j) then acc dues j ++ [⟨iat dues j, (acc dues j).length + 1, j⟩] else acc dues j
theorem acc_len (dues : List Int) : ∀ j, (acc dues j).length ≤ j
  | 0 => Nat.le_refl _
  | j + 1 => by
    have := acc_len dues j
    simp only [acc]; split
    · simp; omega
    · omega
/-- What is known of each that was put. -/
def Good (dues : List Int) (j m : Nat) (y : Itm) : Prop := 0 ≤ y.x ∧ y.x < (j : Int) ∧ iat dues y.x.toNat = y.d ∧ fit y.d = true ∧ 1 ≤ y.n ∧ y.n ≤ (m : Int)
theorem acc_good (dues : List Int) : ∀ j, ∀ y ∈ acc dues j, Good dues j (acc dues j).length y
  | 0, y, h => by simp [acc] at h
  | j + 1, y, h => by
    simp only [acc] at h ⊢
    split at h
    · rename_i hf
      rw [if_pos hf]
      rcases List.mem_append.1 h with h | h
      · obtain ⟨h1, h2, h3, h4, h5, h6⟩ := acc_good dues j y h
        exact ⟨h1, by omega, h3, h4, h5, by simp; omega⟩
      · simp at h
        subst h
        exact ⟨by simp, by simp; omega, by simp, hf, by show (1 : Int) ≤ _ + 1; omega, by simp⟩
    · rename_i hf
      rw [if_neg hf]
      obtain ⟨h1, h2, h3, h4, h5, h6⟩ := acc_good dues j y h
      exact ⟨h1, by omega, h3, h4, h5, h6⟩
/-- The later has the greater number and stands at the greater place. -/
def Asc (a b : Itm) : Prop := a.n < b.n ∧ a.x < b.x
theorem acc_asc (dues : List Int) : ∀ j, (acc dues j).Pairwise Asc
  | 0 => List.Pairwise.nil
  | j + 1 => by
    simp only [acc]; split
    · refine List.pairwise_append.2 ⟨acc_asc dues j, by simp, fun a ha b hb => ?_⟩
      simp at hb; subst hb
      obtain ⟨h1, h2, h3, h4, h5, h6⟩ := acc_good dues j a ha
      exact ⟨by simp; omega, by simpa using h2⟩
    · exact acc_asc dues j
/-- Numbers and places go together. -/
def Tied (l : List Itm) : Prop := l.Pairwise fun a b => Asc a b ∨ Asc b a
theorem tied_acc (dues : List Int) (j : Nat) : Tied (acc dues j) := (acc_asc dues j).imp fun h => .inl h
theorem tied_perm {l m : List Itm} (h : l.Perm m) (hm : Tied m) : Tied l := (h.pairwise_iff (fun {a b} h => h.symm)).2 hm
theorem put_fit {l : List Itm} {d : Int} (h : fit d = true) (hl : l.length < 4096) : putE l d = 0 := by
  simp only [fit, decide_eq_true_eq] at h
  rw [putE, if_neg (by omega), if_neg (by omega)]
theorem put_unfit {l : List Itm} {d : Int} (h : fit d = false) (hl : l.length < 4096) : putE l d = 2 := by
  simp only [fit, decide_eq_false_iff_not] at h
  rw [putE, if_pos (by omega)]
/-- A queue that holds these. -/
structure Holds' (l : List Itm) (m : List Itm) : Prop where
  heap : Heap l
  perm : l.Perm m
theorem Holds'.len {l m : List Itm} (h : Holds' l m) : l.length = m.length := h.perm.length_eq
theorem holds_nil : Holds' [] [] := ⟨heap_nil, List.Perm.refl _⟩
theorem holds_push {l m : List Itm} (h : Holds' l m) (x : Itm) : Holds' (pushQ l x) (m ++ [x]) :=
  ⟨pushQ_heap h.heap x, (pushQ_perm l x).trans ((h.perm.cons x).trans (List.perm_append_comm (l₁ := [x]) (l₂ := m)))⟩
theorem put_acc {l : List Itm} {dues : List Int} {j : Nat} (h : Holds' l (acc dues j)) (hj : j < 4096) :
    Holds' (putL l (acc dues j).length (iat dues j) j) (acc dues (j + 1)) ∧ putZ l (acc dues j).length (iat dues j) = ((acc dues (j + 1)).length : Int) ∧
      (putE l (iat dues j) = 0 ↔ fit (iat dues j) = true) := by
  have hl : l.length < 4096 := by rw [h.len]; have := acc_len dues j; omega
  cases hf : fit (iat dues j) with
  | true =>
    have he := put_fit hf hl
    refine ⟨?_, ?_, by simp [he]⟩
    · simp only [putL, he, if_true, acc, hf]
      exact holds_push h _
    · simp only [putZ, he, if_true, acc, hf]; simp
  | false =>
    have he := put_unfit hf hl
    refine ⟨?_, ?_, by simp [he]⟩
    · simp only [putL, he, acc, hf]; simpa using h
    · simp only [putZ, he, acc, hf]; simp

/-- The first of a queue that is not empty: it is there, and the others come behind it. -/
theorem first_of {l : List Itm} (h : Heap l) (hl : 0 < l.length) : at' l 0 ∈ l ∧ (at' l 0 :: popQ l).Perm l ∧ Heap (popQ l) ∧ ∀ y ∈ popQ l, le (at' l 0) y :=
  ⟨by simp [at', hl], popQ_perm hl, popQ_heap h, popQ_least h hl⟩
theorem next_yes {l : List Itm} {now : Int} (hl : 0 < l.length) (hd : (at' l 0).d ≤ now) : nextB l now = true ∧ nextX l now = (at' l 0).x ∧ nextL l now = popQ l := by
  have : nextB l now = true := decide_eq_true ⟨by omega, hd⟩
  exact ⟨this, if_pos this, if_pos this⟩
theorem next_no {l : List Itm} {now : Int} (h : l.length = 0 ∨ now < (at' l 0).d) : nextB l now = false := decide_eq_false fun h' => by omega

/-! ### QueueOrders -/
/-- What is left comes behind what was taken last. -/
structure Ord (dues : List Int) (l : List Itm) (n k : Nat) (last at_ : Int) : Prop where
  heap : Heap l
  len : l.length = n - k
  good : ∀ y ∈ l, Good dues dues.length n y
  tied : Tied l
  behind : ∀ y ∈ l, last < y.d ∨ last = y.d ∧ at_ < y.x
theorem ord_start {l : List Itm} {dues : List Int} (h : Holds' l (acc dues dues.length)) : Ord dues l (acc dues dues.length).length 0 (-1) (-1) := by
  refine ⟨h.heap, by rw [h.len]; rfl, fun y hy => acc_good _ _ y (h.perm.mem_iff.1 hy), tied_perm h.perm (tied_acc _ _), fun y hy => ?_⟩
  obtain ⟨h1, h2, h3, h4, h5, h6⟩ := acc_good dues _ y (h.perm.mem_iff.1 hy)
  simp only [fit, decide_eq_true_eq] at h4
  omega
theorem ord_next {l : List Itm} {dues : List Int} {n k : Nat} {last at_ : Int} (h : Ord dues l n k last at_) (hk : k < n) {now : Int} (hnow : now = 1099511627776) :
    nextB l now = true ∧ 0 ≤ nextX l now ∧ nextX l now < (dues.length : Int) ∧
      ¬ iat dues (nextX l now).toNat < last ∧ ¬ (iat dues (nextX l now).toNat = last ∧ nextX l now ≤ at_) ∧
      Ord dues (nextL l now) n (k + 1) (iat dues (nextX l now).toNat) (nextX l now) := by
  have hl : 0 < l.length := by rw [h.len]; omega
  obtain ⟨f1, f2, f3, f4⟩ := first_of h.heap hl
  obtain ⟨h1, h2, h3, h4, h5, h6⟩ := h.good _ f1
  simp only [fit, decide_eq_true_eq] at h4
  obtain ⟨n1, n2, n3⟩ := next_yes (now := now) hl (by rw [hnow]; exact h4.2)
  rw [n2, n3]
  have hb := h.behind _ f1
  refine ⟨n1, h1, h2, by rw [h3]; omega, by rw [h3]; omega, f3, by rw [popQ_len, h.len]; omega, fun y hy => h.good y (f2.mem_iff.1 (List.mem_cons_of_mem _ hy)), ?_, fun y hy => ?_⟩
  · exact (List.pairwise_cons.1 (tied_perm f2 h.tied)).2
  · have ht := (List.pairwise_cons.1 (tied_perm f2 h.tied)).1 y hy
    have hle := f4 y hy
    rw [h3]
    unfold le at hle
    unfold Asc at ht
    omega
theorem ord_end {l : List Itm} {dues : List Int} {n : Nat} {last at_ : Int} (h : Ord dues l n n last at_) (now : Int) : nextB l now = false ∧ nextL l now = l ∧ l.length = 0 := by
  have h0 : l.length = 0 := by rw [h.len]; omega
  have := next_no (now := now) (.inl h0)
  exact ⟨this, if_neg (by rw [this]; decide), h0⟩

/-! ### QueueWaits -/
def earlyQ (now : Int) (l : List Itm) : Nat := l.countP fun y => decide (y.d ≤ now)
structure Wai (dues : List Int) (now : Int) (l : List Itm) (all e k : Nat) : Prop where
  heap : Heap l
  len : l.length = all - k
  good : ∀ y ∈ l, Good dues dues.length all y
  cnt : earlyQ now l = e - k
  le1 : e ≤ all
theorem wai_start {l : List Itm} {dues : List Int} {now : Int} (h : Holds' l (acc dues dues.length)) : Wai dues now l (acc dues dues.length).length (earlyQ now (acc dues dues.length)) 0 := by
  refine ⟨h.heap, by rw [h.len]; rfl, fun y hy => acc_good _ _ y (h.perm.mem_iff.1 hy), ?_, List.countP_le_length⟩
  exact h.perm.countP_eq _
theorem earlyQ_acc (dues : List Int) (now : Int) (j : Nat) : earlyQ now (acc dues (j + 1)) = earlyQ now (acc dues j) + if fit (iat dues j) = true ∧ iat dues j ≤ now then 1 else 0 := by
  simp only [acc]
  cases hf : fit (iat dues j) with
  | true =>
    simp only [if_true, earlyQ, List.countP_append, List.countP_cons, List.countP_nil]
    by_cases h : iat dues j ≤ now <;> simp [h]
  | false => simp
theorem wai_next {l : List Itm} {dues : List Int} {now : Int} {all e k : Nat} (h : Wai dues now l all e k) (hk : k < e) :
    nextB l now = true ∧ 0 ≤ nextX l now ∧ nextX l now < (dues.length : Int) ∧ ¬ iat dues (nextX l now).toNat > now ∧ Wai dues now (nextL l now) all e (k + 1) := by
  have h1 := h.len; have h2 := h.cnt; have h3 := h.le1
  have hl : 0 < l.length := by omega
  obtain ⟨f1, f2, f3, f4⟩ := first_of h.heap hl
  have hd : (at' l 0).d ≤ now := by
    have : 0 < earlyQ now l := by omega
    obtain ⟨y, hy, hy2⟩ := List.countP_pos_iff.1 this
    have hy2 := of_decide_eq_true hy2
    rcases List.mem_cons.1 (f2.mem_iff.2 hy) with rfl | hy
    · exact hy2
    · have := f4 y hy
      unfold le at this; omega
  obtain ⟨n1, n2, n3⟩ := next_yes hl hd
  obtain ⟨g1, g2, g3, g4, g5, g6⟩ := h.good _ f1
  rw [n2, n3]
  refine ⟨n1, g1, g2, by rw [g3]; omega, f3, by rw [popQ_len]; omega, fun y hy => h.good y (f2.mem_iff.1 (List.mem_cons_of_mem _ hy)), ?_, h3⟩
  have := f2.countP_eq fun y => decide (y.d ≤ now)
  rw [List.countP_cons, if_pos (decide_eq_true hd)] at this
  simp only [earlyQ] at h2 ⊢
  omega
theorem wai_end {l : List Itm} {dues : List Int} {now : Int} {all e : Nat} (h : Wai dues now l all e e) : nextB l now = false ∧ nextL l now = l ∧ l.length = all - e := by
  have h1 := h.len; have h2 := h.cnt; have h3 := h.le1
  have : nextB l now = false := by
    refine next_no ?_
    by_cases h0 : l.length = 0
    · exact .inl h0
    · refine .inr ?_
      obtain ⟨f1, _⟩ := first_of h.heap (by omega)
      have hz : earlyQ now l = 0 := by omega
      have := List.countP_eq_zero.1 hz _ f1
      simpa using this
  exact ⟨this, if_neg (by rw [this]; decide), h1⟩

/-! ### QueueFull -/
def sames (due : Int) (j : Nat) : List Itm := (List.range j).map fun (k : Nat) => (⟨due, (k : Int) + 1, (k : Int)⟩ : Itm)
theorem sames_succ (due : Int) (j : Nat) : sames due (j + 1) = sames due j ++ [⟨due, j + 1, j⟩] := by simp [sames, List.range_succ]
theorem sames_len (due : Int) (j : Nat) : (sames due j).length = j := by simp [sames]
theorem full_put {l : List Itm} {due : Int} {j : Nat} (h : Holds' l (sames due j)) (hj : j < 4096) (hf : fit due = true) :
    putE l due = 0 ∧ putZ l j due = ((j + 1 : Nat) : Int) ∧ Holds' (putL l j due j) (sames due (j + 1)) := by
  have he := put_fit (l := l) hf (by rw [h.len, sames_len]; exact hj)
  refine ⟨he, by simp [putZ, he], ?_⟩
  simp only [putL, he, if_true, sames_succ]
  exact holds_push h _
theorem full_end {l : List Itm} {due z : Int} {j : Nat} (h : Holds' l (sames due j)) (hj : j = 4096) (hf : fit due = true) :
    putE l due = 4 ∧ l.length = 4096 ∧ putL l z due 1 = l ∧ putZ l z due = z ∧ nextB l due = true ∧ nextX l due = 0 ∧ putE (nextL l due) due = 0 ∧ (nextL l due).length = 4095 := by
  have hl : l.length = 4096 := by rw [h.len, sames_len, hj]
  have he : putE l due = 4 := by
    simp only [fit, decide_eq_true_eq] at hf
    rw [putE, if_neg (by omega), if_pos (by omega)]
  have hmem : ∀ y ∈ l, ∃ k : Nat, k < 4096 ∧ y = ⟨due, (k : Int) + 1, (k : Int)⟩ := fun y hy => by
    obtain ⟨k, hk, rfl⟩ := List.mem_map.1 (h.perm.mem_iff.1 hy)
    exact ⟨k, by rw [← hj]; exact List.mem_range.1 hk, rfl⟩
  obtain ⟨f1, f2, f3, f4⟩ := first_of h.heap (by omega)
  obtain ⟨k, hk, hy⟩ := hmem _ f1
  have h0 : (⟨due, 1, 0⟩ : Itm) ∈ l := h.perm.mem_iff.2 (List.mem_map.2 ⟨0, List.mem_range.2 (by omega), rfl⟩)
  have hk0 : k = 0 := by
    rcases List.mem_cons.1 (f2.mem_iff.2 h0) with h1 | h1
    · rw [hy] at h1
      injection h1 with h2 h3 h4
      omega
    · have := f4 _ h1
      rw [hy] at this
      unfold le at this
      simp at this
      omega
  subst hk0
  obtain ⟨n1, n2, n3⟩ := next_yes (l := l) (now := due) (by omega) (by rw [hy]; exact Int.le_refl _)
  refine ⟨he, hl, by simp [putL, he], by simp [putZ, he], n1, by rw [n2, hy]; rfl, ?_, by rw [n3, popQ_len]; omega⟩
  rw [n3]
  exact put_fit hf (by rw [popQ_len]; omega)
end Go.Q
