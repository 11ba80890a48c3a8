/- Value operations: soundness, all of them. -/
import Derived.Test.YtfopdmoomdankaaSyG
set_option linter.unusedVariables false
set_option linter.unusedSimpArgs false
namespace Go.Sy
open Go

theorem fold_set (off : Nat) : ∀ (l : List Value) (s : Nat) (cells : Array Value), off + s + l.length ≤ cells.size →
    ((l.zipIdx s).foldl (fun cs p => cs.setIfInBounds (off + p.2) p.1) cells).toList = cells.toList.take (off + s) ++ l ++ cells.toList.drop (off + s + l.length)
  | [], s, cells, h => by simp
  | v :: l, s, cells, h => by
    simp only [List.zipIdx_cons, List.foldl_cons]
    rw [fold_set off l (s + 1) _ (by simp at h ⊢; omega)]
    have := list_seg_step cells.toList (off + s) v l (by simp at h ⊢; omega)
    simpa [Array.toList_setIfInBounds, Nat.add_assoc, Nat.add_comm 1] using this

theorem fold_size (off : Nat) : ∀ (l : List (Value × Nat)) (cells : Array Value), (l.foldl (fun cs p => cs.setIfInBounds (off + p.2) p.1) cells).size = cells.size
  | [], _ => rfl
  | p :: l, cells => by simp only [List.foldl_cons]; rw [fold_size off l]; simp
theorem fold_size' (off : Nat) (v cells : Array Value) : (v.zipIdx.foldl (fun cs p => cs.setIfInBounds (off + p.2) p.1) cells).size = cells.size := by
  rw [← Array.foldl_toList]; exact fold_size off _ _

theorem fill_one (off : Nat) (v cells : Array Value) (h : off + v.size ≤ cells.size) :
    (v.zipIdx.foldl (fun cs p => cs.setIfInBounds (off + p.2) p.1) cells).toList = cells.toList.take off ++ v.toList ++ cells.toList.drop (off + v.size) := by
  rw [← Array.foldl_toList, Array.toList_zipIdx]
  have := fold_set off v.toList 0 cells (by simpa using h)
  simpa using this

section
variable {K : Type} {N : Hide} {P : Program} {D : Dx K} {R : List (Nat × Sp K)} {mb : Bw} {okc : Nat → Prop} {w0 w : World} {nt : Nat} {val : Nat → Option Value} {st : St K} {a : Act} {o : Oper}

theorem fill_rel {ok : Nat → Prop} (he : ∀ {x x'}, CO x x' → RA D.toDom val ok w (ev st x') (a.eval x)) {pl : List (Nat × Nat)} : ∀ {ps : List (Nat × Operand)} {qs : List (Nat × Nat × O)}, Parts pl ps qs → ∀ {cs cs' : List (C K)} {us : Array Value}, Rs D.toDom val ok w cs us.toList → fillA st cs qs = some cs' →
    ∃ us', Instr.fill (pl.toArray[·]?) us (ps.map fun (i, x) => (i, a.eval x)) = some us' ∧ Rs D.toDom val ok w cs' us'.toList := by
  intro ps qs hp
  induction hp with
  | nil => intro cs cs' us hr h; simp only [fillA, Option.some.injEq] at h; subst h; exact ⟨us, rfl, hr⟩
  | @cons i x off n y r s hpl hxy hrest ih =>
    intro cs cs' us hr h
    simp only [fillA] at h
    have hy := he hxy
    split at h
    · rename_i b hb
      rw [hb] at hy
      have hcells := RB.cells D.toDom hy
      split at h
      · rename_i h1 h2
        have h1 := lenB_eq h1
        have h2 := len_true h2
        have hsz : (a.eval x).cells.size = n := by rw [← h1, hcells.1]; simp
        have h9 : cs.length = us.size := by rw [hr.1]; simp
        have hfit : off + (a.eval x).cells.size ≤ us.size := by rw [hsz]; omega
        have hnew : Rs D.toDom val ok w (cat2 (tk off cs) (cat2 b.cells (dr (off + n) cs))) (((a.eval x).cells.zipIdx.foldl (fun cs p => cs.setIfInBounds (off + p.2) p.1) us)).toList := by
          rw [fill_one off _ _ hfit, cat2_eq, cat2_eq, tk_eq, dr_eq, hsz, List.append_assoc]
          exact (hr.take D.toDom off).append D.toDom (hcells.append D.toDom (hr.drop D.toDom (off + n)))
        obtain ⟨us', h3, h4⟩ := ih hnew h
        refine ⟨us', ?_, h4⟩
        simp only [List.map_cons, Instr.fill]
        have hpl' : pl.toArray[i]? = some (off, n) := by simpa using hpl
        simp only [hpl']
        rw [if_neg (by simp [hsz]; omega)]
        exact h3
      · cases h
    · cases h

theorem rows_rel {ok : Nat → Prop} {sz : Nat} (he : ∀ {x x'}, CO x x' → RA D.toDom val ok w (ev st x') (a.eval x)) : ∀ {xs : List Operand} {ys : List O}, COs xs ys → ∀ {ls : List (List (C K))}, rowsOf st sz ys = some ls →
    ls.length = xs.length ∧ (∀ l ∈ ls, allClo l = true ∧ l.length = sz) ∧ ∀ (j : Nat) (l : List (C K)) (x : Operand), ls[j]? = some l → xs[j]? = some x → Rs D.toDom val ok w l (a.eval x).cells.toList := by
  intro xs ys hc
  induction hc with
  | nil => intro ls h; simp only [rowsOf, Option.some.injEq] at h; subst h; simp
  | @cons x y xs ys hxy hc ih =>
    intro ls h
    simp only [rowsOf] at h
    have hy := he hxy
    split at h
    · rename_i b hb
      rw [hb] at hy
      split at h
      · rename_i hclo hlen
        split at h
        · rename_i l hl
          injection h with h; subst h
          obtain ⟨i1, i2, i3⟩ := ih hl
          refine ⟨by simp [i1], fun l' hl' => ?_, fun j l' x' hj hx' => ?_⟩
          · rcases List.mem_cons.1 hl' with rfl | hl'
            · exact ⟨hclo, lenB_eq hlen⟩
            · exact i2 _ hl'
          · cases j with
            | zero => simp at hj hx'; subst hj; subst hx'; exact RB.cells D.toDom hy
            | succ j => exact i3 j l' x' (by simpa using hj) (by simpa using hx')
        · cases h
      · cases h
    · cases h

theorem clo_has {x : C K} (h : x.clo = true) (i : Nat) : x.has i = false := by cases x <;> simp_all [C.clo, C.has]
theorem allClo_mem : ∀ {l : List (C K)}, allClo l = true → ∀ x ∈ l, x.clo = true
  | [], _, x, hx => by cases hx
  | y :: r, h, x, hx => by
    simp only [allClo] at h
    split at h
    · rcases List.mem_cons.1 hx with rfl | hx
      · assumption
      · exact allClo_mem h x hx
    · cases h
theorem Rs.clo {D : Dom K} {ok : Nat → Prop} {w : World} {val : Nat → Option Value} {xs : List (C K)} {ys : List Value} (h : Rs D val ok w xs ys) (hc : allClo xs = true) (val' : Nat → Option Value) : Rs D val' ok w xs ys :=
  ⟨h.1, fun j x hx => by
    obtain ⟨y, h1, h2⟩ := h.2 j x hx
    exact ⟨y, h1, h2.mv D (Mv.refl _ _) fun i hi => by rw [clo_has (allClo_mem hc x (List.mem_of_getElem? hx)) i] at hi; cases hi⟩⟩
theorem RB.clo {D : Dom K} {ok : Nat → Prop} {w : World} {val : Nat → Option Value} {x : B K} {y : Value} (h : RB D val ok w x y) (hc : x.clo = true) (val' : Nat → Option Value) : RB D val' ok w x y := by
  cases x with
  | c x => exact Rc.mv D h (Mv.refl _ _) fun i hi => by rw [clo_has hc i] at hi; cases hi
  | g cs => obtain ⟨us, rfl, h⟩ := h; exact ⟨us, rfl, h.clo hc val'⟩

/-- Filling a row part by part. -/
theorem fill_rows (size : Nat) : ∀ (vs : List Value) (i : Nat) (us : Array Value), (i + vs.length) * size ≤ us.size → (∀ v ∈ vs, v.cells.size = size) →
    ∃ us', Instr.fill (fun i => some (i * size, size)) us ((vs.zipIdx i).map fun p => (p.2, p.1)) = some us' ∧ us'.toList = us.toList.take (i * size) ++ (vs.map fun v => v.cells.toList).flatten ++ us.toList.drop ((i + vs.length) * size)
  | [], i, us, h, hv => ⟨us, rfl, by simp⟩
  | v :: vs, i, us, h, hv => by
    have hs := hv v (by simp)
    have hle : i * size + size ≤ us.size := by
      have : (i + 1) * size ≤ (i + (v :: vs).length) * size := Nat.mul_le_mul_right _ (by simp)
      rw [Nat.succ_mul] at this
      omega
    have h1 := fill_one (i * size) v.cells us (by omega)
    obtain ⟨us', h2, h3⟩ := fill_rows size vs (i + 1) (v.cells.zipIdx.foldl (fun cs p => cs.setIfInBounds (i * size + p.2) p.1) us)
      (by rw [fold_size' (i * size) v.cells us]; simp at h ⊢; rw [Nat.add_right_comm, Nat.add_assoc]; exact h)
      (fun x hx => hv x (by simp [hx]))
    refine ⟨us', ?_, ?_⟩
    · simp only [List.zipIdx_cons, List.map_cons, Instr.fill]
      rw [if_neg (by simp [hs]; omega)]
      exact h2
    · rw [h3, h1]
      have e1 : (i + 1) * size = i * size + size := Nat.succ_mul i size
      have e2 : (i + 1 + vs.length) * size = (i + (v :: vs).length) * size := by simp; congr 1; omega
      have hl : (us.toList.take (i * size)).length = i * size := by simp; omega
      have hl2 : (us.toList.take (i * size) ++ v.cells.toList).length = (i + 1) * size := by rw [List.length_append, hl, Array.length_toList, hs, e1]
      rw [List.take_append_of_le_length (by rw [hl2]; exact Nat.le_refl _), ← hl2, List.take_length, List.drop_append]
      have hge : (i + 1 + vs.length) * size ≥ (i + 1) * size := Nat.mul_le_mul_right _ (by omega)
      rw [List.drop_of_length_le (by rw [hl2]; exact hge), List.nil_append, List.drop_drop, hl2]
      simp only [List.map_cons, List.flatten_cons, List.append_assoc]
      congr 4
      rw [e2, hs, ← e1]
      have : (i + (v :: vs).length) * size ≥ (i + 1) * size := by rw [← e2]; exact hge
      omega
end
end Go.Sy
