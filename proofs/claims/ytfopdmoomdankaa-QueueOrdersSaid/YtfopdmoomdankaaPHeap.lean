/- The heap, as plain functions of lists: up, down, their laws. -/
set_option linter.unusedVariables false
namespace Go.Q

/-- When it is due, the how manieth it was, the thing. -/
structure Itm where
  d : Int
  n : Int
  x : Int
/-- One item comes ahead of another one. -/
def lt (a b : Itm) : Bool := decide (a.d < b.d ∨ a.d = b.d ∧ a.n < b.n)
def le (a b : Itm) : Prop := a.d < b.d ∨ a.d = b.d ∧ a.n ≤ b.n
theorem lt_false {a b : Itm} : lt a b = false ↔ le b a := by
  simp only [lt, le, decide_eq_false_iff_not]; omega
theorem lt_true {a b : Itm} (h : lt a b = true) : le a b := by
  simp only [lt, decide_eq_true_eq] at h; unfold le; omega
theorem le_refl (a : Itm) : le a a := by unfold le; omega
theorem le_trans {a b c : Itm} (h : le a b) (h' : le b c) : le a c := by unfold le at *; omega

def at' (l : List Itm) (i : Nat) : Itm := l.getD i ⟨0, 0, 0⟩
def swp (l : List Itm) (i j : Nat) : List Itm := (l.set i (at' l j)).set j (at' l i)
theorem swp_len (l : List Itm) (i j : Nat) : (swp l i j).length = l.length := by simp [swp]
theorem swp_at {l : List Itm} {i j : Nat} (hi : i < l.length) (hj : j < l.length) (k : Nat) :
    at' (swp l i j) k = if k = j then at' l i else if k = i then at' l j else at' l k := by
  simp only [at', swp, List.getD_eq_getElem?_getD, List.getElem?_set]
  grind
theorem swp_perm {l : List Itm} {i j : Nat} (hi : i < l.length) (hj : j < l.length) : (swp l i j).Perm l := by
  have := List.set_set_perm (as := l) hi hj
  simpa [swp, at', hi, hj] using this

/-- The last one rises. -/
def upH : Nat → List Itm → Nat → List Itm
  | 0, l, _ => l
  | n + 1, l, j => if j = 0 then l else if lt (at' l j) (at' l ((j - 1) / 2)) then upH n (swp l ((j - 1) / 2) j) ((j - 1) / 2) else l
theorem upH_fuel : ∀ (n n' j : Nat) (l : List Itm), j < n → j < n' → upH n l j = upH n' l j
  | 0, _, j, _, h, _ => absurd h (Nat.not_lt_zero _)
  | _, 0, j, _, _, h => absurd h (Nat.not_lt_zero _)
  | n + 1, n' + 1, j, l, h, h' => by
    simp only [upH]
    split
    · rfl
    · split
      · exact upH_fuel n n' _ _ (by omega) (by omega)
      · rfl
theorem upH_len : ∀ (n : Nat) (l : List Itm) (j : Nat), (upH n l j).length = l.length
  | 0, _, _ => rfl
  | n + 1, l, j => by
    simp only [upH]
    split
    · rfl
    · split
      · rw [upH_len n, swp_len]
      · rfl
theorem upH_perm : ∀ (n : Nat) (l : List Itm) (j : Nat), j < l.length → (upH n l j).Perm l
  | 0, l, _, _ => List.Perm.refl l
  | n + 1, l, j, h => by
    simp only [upH]
    split
    · exact List.Perm.refl l
    · split
      · exact (upH_perm n _ _ (by rw [swp_len]; omega)).trans (swp_perm (by omega) h)
      · exact List.Perm.refl l

/-- Each one but the first is not ahead of the one above it. -/
def Heap (l : List Itm) : Prop := ∀ k, 0 < k → k < l.length → le (at' l ((k - 1) / 2)) (at' l k)

theorem upH_heap : ∀ (n : Nat) (l : List Itm) (j : Nat), j < n → j < l.length →
    (∀ k, 0 < k → k < l.length → k ≠ j → le (at' l ((k - 1) / 2)) (at' l k)) →
    (∀ k, 0 < k → k < l.length → (k - 1) / 2 = j → 0 < j → le (at' l ((j - 1) / 2)) (at' l k)) → Heap (upH n l j)
  | 0, _, _, h, _, _, _ => absurd h (Nat.not_lt_zero _)
  | n + 1, l, j, hn, hj, h1, h2 => by
    simp only [upH]
    split
    · rename_i h0
      intro k hk hkl
      exact h1 k hk hkl (by omega)
    · rename_i h0
      have hp : (j - 1) / 2 < l.length := by omega
      split
      · rename_i hlt
        have hlt' := lt_true hlt
        refine upH_heap n _ _ (by omega) (by rw [swp_len]; exact hp) (fun k hk hkl hne => ?_) (fun k hk hkl hpar h0p => ?_)
        · rw [swp_len] at hkl
          rw [swp_at hp hj, swp_at hp hj]
          by_cases hkj : k = j
          · subst hkj
            rw [if_neg (by omega), if_pos rfl, if_pos rfl]
            exact hlt'
          · rw [if_neg hkj, if_neg hne]
            by_cases hpj : (k - 1) / 2 = j
            · rw [if_pos hpj]
              exact h2 k hk hkl hpj (by omega)
            · rw [if_neg hpj]
              by_cases hpp : (k - 1) / 2 = (j - 1) / 2
              · rw [if_pos hpp]
                exact le_trans hlt' (by have := h1 k hk hkl hkj; rwa [hpp] at this)
              · rw [if_neg hpp]
                exact h1 k hk hkl hkj
        · rw [swp_len] at hkl
          rw [swp_at hp hj, swp_at hp hj]
          have hgp : le (at' l (((j - 1) / 2 - 1) / 2)) (at' l ((j - 1) / 2)) := h1 _ h0p hp (by omega)
          rw [if_neg (by omega), if_neg (by omega)]
          by_cases hkj : k = j
          · rw [if_pos hkj]; exact hgp
          · rw [if_neg hkj, if_neg (by omega)]
            exact le_trans hgp (by have := h1 k hk hkl hkj; rwa [hpar] at this)
      · rename_i hlt
        have hle := lt_false.1 (Bool.not_eq_true _ ▸ hlt)
        intro k hk hkl
        by_cases hkj : k = j
        · subst hkj; exact hle
        · exact h1 k hk hkl hkj

/-- The smaller child's place. -/
def kid (l : List Itm) (i n : Nat) : Nat := if 2 * i + 2 < n ∧ lt (at' l (2 * i + 2)) (at' l (2 * i + 1)) = true then 2 * i + 2 else 2 * i + 1
/-- One sinks, among the first n. -/
def downH : Nat → List Itm → Nat → Nat → List Itm
  | 0, l, _, _ => l
  | f + 1, l, i, n => if 2 * i + 1 < n then (if lt (at' l (kid l i n)) (at' l i) then downH f (swp l i (kid l i n)) (kid l i n) n else l) else l
/-- Where it comes to rest. -/
def downI : Nat → List Itm → Nat → Nat → Nat
  | 0, _, i, _ => i
  | f + 1, l, i, n => if 2 * i + 1 < n then (if lt (at' l (kid l i n)) (at' l i) then downI f (swp l i (kid l i n)) (kid l i n) n else i) else i
theorem kid_cases (l : List Itm) (i n : Nat) (h : 2 * i + 1 < n) : kid l i n < n ∧ i < kid l i n ∧ (kid l i n - 1) / 2 = i := by
  unfold kid; split <;> omega
theorem kid_least (l : List Itm) (i n : Nat) (h : 2 * i + 1 < n) : le (at' l (kid l i n)) (at' l (2 * i + 1)) ∧ (2 * i + 2 < n → le (at' l (kid l i n)) (at' l (2 * i + 2))) := by
  unfold kid
  split
  · rename_i h'
    exact ⟨lt_true h'.2, fun _ => le_refl _⟩
  · rename_i h'
    refine ⟨le_refl _, fun h2 => lt_false.1 ?_⟩
    simp only [not_and, h2, true_imp_iff, Bool.not_eq_true] at h'
    exact h'
theorem downH_fuel : ∀ (f f' i n : Nat) (l : List Itm), n ≤ i + f → n ≤ i + f' → downH f l i n = downH f' l i n
  | 0, f', i, n, l, h, h' => by cases f' with | zero => rfl | succ f' => simp only [downH]; rw [if_neg (by omega)]
  | f + 1, 0, i, n, l, h, h' => by simp only [downH]; rw [if_neg (by omega)]
  | f + 1, f' + 1, i, n, l, h, h' => by
    simp only [downH]
    split
    · rename_i h1
      have hk := kid_cases l i n h1
      split
      · exact downH_fuel f f' _ n _ (by omega) (by omega)
      · rfl
    · rfl
theorem downI_fuel : ∀ (f f' i n : Nat) (l : List Itm), n ≤ i + f → n ≤ i + f' → downI f l i n = downI f' l i n
  | 0, f', i, n, l, h, h' => by cases f' with | zero => rfl | succ f' => simp only [downI]; rw [if_neg (by omega)]
  | f + 1, 0, i, n, l, h, h' => by simp only [downI]; rw [if_neg (by omega)]
  | f + 1, f' + 1, i, n, l, h, h' => by
    simp only [downI]
    split
    · rename_i h1
      have hk := kid_cases l i n h1
      split
      · exact downI_fuel f f' _ n _ (by omega) (by omega)
      · rfl
    · rfl
theorem downH_len : ∀ (f : Nat) (l : List Itm) (i n : Nat), (downH f l i n).length = l.length
  | 0, _, _, _ => rfl
  | f + 1, l, i, n => by
    simp only [downH]
    split
    · split
      · rw [downH_len f, swp_len]
      · rfl
    · rfl
theorem downH_perm : ∀ (f : Nat) (l : List Itm) (i n : Nat), n ≤ l.length → (downH f l i n).Perm l
  | 0, l, _, _, _ => List.Perm.refl l
  | f + 1, l, i, n, h => by
    simp only [downH]
    split
    · rename_i h1
      have hk := kid_cases l i n h1
      split
      · exact (downH_perm f _ _ _ (by rw [swp_len]; exact h)).trans (swp_perm (by omega) (by omega))
      · exact List.Perm.refl l
    · exact List.Perm.refl l
/-- What stands at n or behind is left alone. -/
theorem downH_rest : ∀ (f : Nat) (l : List Itm) (i n k : Nat), n ≤ l.length → n ≤ k → at' (downH f l i n) k = at' l k
  | 0, _, _, _, _, _, _ => rfl
  | f + 1, l, i, n, k, h, hk => by
    simp only [downH]
    split
    · rename_i h1
      have hc := kid_cases l i n h1
      split
      · rw [downH_rest f _ _ _ _ (by rw [swp_len]; exact h) hk, swp_at (by omega) (by omega), if_neg (by omega), if_neg (by omega)]
      · rfl
    · rfl
/-- From i0 on, the first n are a heap. -/
def HeapF (i0 n : Nat) (l : List Itm) : Prop := ∀ k, 0 < k → k < n → i0 ≤ (k - 1) / 2 → le (at' l ((k - 1) / 2)) (at' l k)
theorem downH_heap (i0 : Nat) : ∀ (f : Nat) (l : List Itm) (i n : Nat), n ≤ i + f → n ≤ l.length → i0 ≤ i →
    (∀ k, 0 < k → k < n → i0 ≤ (k - 1) / 2 → (k - 1) / 2 ≠ i → le (at' l ((k - 1) / 2)) (at' l k)) →
    (∀ k, 0 < k → k < n → (k - 1) / 2 = i → i0 < i → le (at' l ((i - 1) / 2)) (at' l k)) → (i0 < i → i0 ≤ (i - 1) / 2) → HeapF i0 n (downH f l i n)
  | 0, l, i, n, hf, hl, hi, h1, h2, h3 => fun k hk hkn hp => by
    refine h1 k hk hkn hp (by omega)
  | f + 1, l, i, n, hf, hl, hi, h1, h2, h3 => by
    simp only [downH]
    split
    · rename_i hc
      obtain ⟨c1, c2, c3⟩ := kid_cases l i n hc
      obtain ⟨m1, m2⟩ := kid_least l i n hc
      have hkid : ∀ k, 0 < k → k < n → (k - 1) / 2 = i → le (at' l (kid l i n)) (at' l k) := by
        intro k hk hkn hp
        have : k = 2 * i + 1 ∨ k = 2 * i + 2 := by omega
        rcases this with rfl | rfl
        · exact m1
        · exact m2 hkn
      generalize hcd : kid l i n = c at *
      split
      · rename_i hlt
        have hlt' := lt_true hlt
        have hsw := swp_at (l := l) (i := i) (j := c) (by omega) (by omega)
        refine downH_heap i0 f _ _ n (by omega) (by rw [swp_len]; exact hl) (by omega) (fun k hk hkn hp hne => ?_) (fun k hk hkn hpar h0 => ?_) (fun _ => by omega)
        · rw [hsw, hsw]
          by_cases hkc : k = c
          · subst hkc
            rw [if_neg (by omega), if_pos (by omega), if_pos rfl]
            exact hlt'
          · rw [if_neg hkc, if_neg hne]
            by_cases hki : k = i
            · subst hki
              rw [if_neg (by omega), if_pos rfl]
              exact h2 c (by omega) c1 c3 (by omega)
            · rw [if_neg hki]
              by_cases hpi : (k - 1) / 2 = i
              · rw [if_pos hpi]; exact hkid k hk hkn hpi
              · rw [if_neg hpi]; exact h1 k hk hkn hp hpi
        · rw [hsw, hsw, c3, if_neg (by omega), if_pos rfl, if_neg (by omega), if_neg (by omega)]
          have := h1 k hk hkn (by omega) (by omega)
          rwa [hpar] at this
      · rename_i hlt
        have hle := lt_false.1 (Bool.not_eq_true _ ▸ hlt)
        intro k hk hkn hp
        by_cases hpi : (k - 1) / 2 = i
        · rw [hpi]; exact le_trans hle (hkid k hk hkn hpi)
        · exact h1 k hk hkn hp hpi
    · rename_i hc
      intro k hk hkn hp
      exact h1 k hk hkn hp (by omega)

/-- The first of a heap is least. -/
theorem heap_first {l : List Itm} (h : Heap l) : ∀ k, k < l.length → le (at' l 0) (at' l k) := by
  intro k
  induction k using Nat.strongRecOn with
  | ind k ih =>
    intro hk
    by_cases h0 : k = 0
    · subst h0; exact le_refl _
    · exact le_trans (ih ((k - 1) / 2) (by omega) (by omega)) (h k (by omega) hk)

/-- A thing is put in. -/
def pushQ (l : List Itm) (x : Itm) : List Itm := upH (l.length + 1) (l ++ [x]) l.length
/-- The first is taken out. -/
def popQ (l : List Itm) : List Itm := (downH l.length (swp l 0 (l.length - 1)) 0 (l.length - 1)).take (l.length - 1)
theorem at_append {l : List Itm} {x : Itm} {k : Nat} (h : k < l.length) : at' (l ++ [x]) k = at' l k := by
  simp [at', h, List.getElem_append_left, Nat.lt_succ_of_lt h]
theorem pushQ_perm (l : List Itm) (x : Itm) : (pushQ l x).Perm (x :: l) :=
  (upH_perm _ _ _ (by simp)).trans (List.perm_append_comm (l₁ := l) (l₂ := [x]))
theorem pushQ_heap {l : List Itm} (h : Heap l) (x : Itm) : Heap (pushQ l x) := by
  refine upH_heap _ _ _ (by omega) (by simp) (fun k hk hkl hne => ?_) (fun k hk hkl hp h0 => ?_)
  · have : k < l.length := by simp at hkl; omega
    rw [at_append this, at_append (by omega)]
    exact h k hk this
  · simp at hkl; omega
theorem pushQ_len (l : List Itm) (x : Itm) : (pushQ l x).length = l.length + 1 := by simp [pushQ, upH_len]
theorem popQ_len (l : List Itm) : (popQ l).length = l.length - 1 := by simp [popQ, downH_len, swp_len]
theorem at_take {l : List Itm} {n k : Nat} (h : k < n) : at' (l.take n) k = at' l k := by
  simp [at', h]
theorem take_last {l : List Itm} (h : 0 < l.length) : l = l.take (l.length - 1) ++ [at' l (l.length - 1)] := by
  have h1 : l.length - 1 < l.length := by omega
  conv => lhs; rw [← List.take_append_drop (l.length - 1) l, List.drop_eq_getElem_cons h1]
  have : l.drop (l.length - 1 + 1) = [] := List.drop_of_length_le (by omega)
  rw [this]
  simp [at', h1]
theorem popQ_perm {l : List Itm} (h : 0 < l.length) : (at' l 0 :: popQ l).Perm l := by
  have hL : (downH l.length (swp l 0 (l.length - 1)) 0 (l.length - 1)).length = l.length := by rw [downH_len, swp_len]
  have h1 := take_last (l := downH l.length (swp l 0 (l.length - 1)) 0 (l.length - 1)) (by omega)
  rw [hL, downH_rest _ _ _ _ _ (by rw [swp_len]; omega) (Nat.le_refl _), swp_at (by omega) (by omega), if_pos rfl] at h1
  have h2 : (downH l.length (swp l 0 (l.length - 1)) 0 (l.length - 1)).Perm l := (downH_perm _ _ _ _ (by rw [swp_len]; omega)).trans (swp_perm (by omega) (by omega))
  rw [h1] at h2
  exact (List.perm_append_comm (l₁ := [at' l 0]) (l₂ := popQ l)).trans h2
theorem popQ_heap {l : List Itm} (h : Heap l) : Heap (popQ l) := by
  intro k hk hkl
  rw [popQ_len] at hkl
  have hl : 0 < l.length := by omega
  have hsw := swp_at (l := l) (i := 0) (j := l.length - 1) (by omega) (by omega)
  have := downH_heap 0 l.length (swp l 0 (l.length - 1)) 0 (l.length - 1) (by omega) (by rw [swp_len]; omega) (Nat.le_refl _) (fun k hk hkn _ hne => ?_) (fun k hk hkn hp h0 => by omega) (fun h0 => by omega)
  · unfold popQ
    rw [at_take (by omega), at_take (by omega)]
    exact this k hk hkl (Nat.zero_le _)
  · rw [hsw, hsw, if_neg (by omega), if_neg hne, if_neg (by omega), if_neg (by omega)]
    exact h k hk (by omega)
theorem popQ_least {l : List Itm} (h : Heap l) (hl : 0 < l.length) : ∀ y ∈ popQ l, le (at' l 0) y := by
  intro y hy
  have : y ∈ l := (popQ_perm hl).mem_iff.1 (List.mem_cons_of_mem _ hy)
  obtain ⟨k, hk, rfl⟩ := List.getElem_of_mem this
  have := heap_first h k hk
  simpa [at', hk] using this
theorem heap_nil : Heap [] := fun k _ h => absurd h (Nat.not_lt_zero _)
end Go.Q
