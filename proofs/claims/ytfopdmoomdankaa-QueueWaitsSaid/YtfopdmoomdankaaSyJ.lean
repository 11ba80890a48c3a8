/- A value operation of the loaded code does what the abstract step says: all of them. -/
import Derived.Test.YtfopdmoomdankaaSyI
set_option linter.unusedVariables false
set_option linter.unusedSimpArgs false
namespace Go.Sy
open Go

section
variable {K : Type} {N : Hide} {P : Program} {D : Dx K} {R : List (Nat × Sp K)} {mb : Bw} {okc : Nat → Prop} {w0 w : World} {nt : Nat} {val : Nat → Option Value} {st : St K} {a : Act} {o : Oper}

theorem vs_build {T : TypeId} {ps : Array (Nat × Operand)} {qs : List (Nat × Nat × O)} {pl : List (Nat × Nat)} {cs cs' : List (C K)} {T' : TypeId} (hD : DomOk P D) (hst : Rst D.toDom mb okc w0 nt val st a w)
    (hop : o.op = .build T ps) (hpl : plT P T = some pl) (hps : Parts pl ps.toList qs) (hz : D.zobj T = some (.box T' cs)) (hf : fillA st cs qs = some cs') : Gives P D mb okc w0 nt val st a w o (.b (.g cs')) := by
  obtain ⟨i, z, h1, h2, h3, h4, h5⟩ := hD.zobj T _ hz
  obtain ⟨us', h6, h7⟩ := fill_rel (fun h => ev_rel hst h) hps (Rs_closed (h5 w _) val) hf
  have hb : P.built T (ps.map fun (i, x) => (i, a.eval x)).toList = some us' := by
    unfold plT at hpl
    split at hpl
    · rename_i fs hfs
      simp only [Program.built, h1, hfs, h2, hpl]
      simpa using h6
    · cases hpl
  exact gives_same (y := .agg us') hst (by simp only [execOp, hop, Sem.run_bind, run_build w T _ us' hb, Result.andThen_ok]; rfl) ⟨us'.toList, by simp, h7⟩


theorem clo_im {x : C K} {ok : Nat → Prop} {y : Value} (h : Rc D.toDom val ok w x y) (hx : x.clo = true) : Rc D.toDom (fun _ => none) ok w x y :=
  h.mv D.toDom (Mv.refl _ _) fun i hi => by rw [clo_has hx i] at hi; cases hi

theorem allClo_flat : ∀ {ls : List (List (C K))}, (∀ l ∈ ls, allClo l = true) → ∀ x ∈ ls.flatten, x.clo = true := by
  intro ls h x hx
  obtain ⟨l, hl, hx⟩ := List.mem_flatten.1 hx
  exact allClo_mem (h l hl) x hx

/-- Cells that are laid part by part. -/
theorem rows_flat {ok : Nat → Prop} : ∀ {ls : List (List (C K))} {vs : List Value}, ls.length = vs.length → (∀ (j : Nat) (l : List (C K)) (v : Value), ls[j]? = some l → vs[j]? = some v → Rs D.toDom val ok w l v.cells.toList) →
    Rs D.toDom val ok w ls.flatten (vs.map fun v => v.cells.toList).flatten
  | [], [], _, _ => Rs.nil _
  | l :: ls, v :: vs, hl, h => by
    simp only [List.flatten_cons, List.map_cons]
    exact (h 0 l v rfl rfl).append D.toDom (rows_flat (by simpa using hl) fun j l v hj hv => h (j + 1) l v (by simpa using hj) (by simpa using hv))
  | [], _ :: _, hl, _ => by simp at hl
  | _ :: _, [], hl, _ => by simp at hl

theorem elemAt_zip : ∀ {i : Nat} {ps : List (Nat × Operand)} {xs : List Operand}, elemAt i ps = some xs → ps.map (fun (i, x) => (i, a.eval x)) = ((xs.map a.eval).zipIdx i).map fun p => (p.2, p.1)
  | i, [], xs, h => by simp only [elemAt, Option.some.injEq] at h; subst h; rfl
  | i, (j, x) :: ps, xs, h => by
    simp only [elemAt] at h
    split at h
    · rename_i l hij hl
      injection h with h; subst h
      have hij := eqn_true hij
      subst hij
      simp [elemAt_zip hl]
    · cases h
theorem elemAt_len : ∀ {i : Nat} {ps : List (Nat × Operand)} {xs : List Operand}, elemAt i ps = some xs → ps.length = xs.length
  | i, [], xs, h => by simp only [elemAt, Option.some.injEq] at h; subst h; rfl
  | i, (j, x) :: ps, xs, h => by
    simp only [elemAt] at h
    split at h
    · rename_i l hij hl
      injection h with h; subst h
      simp [elemAt_len hl]
    · cases h

theorem run_bsl {T e : TypeId} {ps : Array (Nat × Operand)} {xs : List Operand} {sz : Nat} (hT : slE P T = some e) (hs : szT P e = some sz) (hn : ps.size * sz ≤ 2 ^ 24) (he : elemAt 0 ps.toList = some xs) (hsz : ∀ x ∈ xs, (a.eval x).cells.size = sz)
    (hop : o.op = .buildSlice T ps.size ps) (hz : ps.size * sz = 0 ∨ ∃ i z, P.info? e = some i ∧ i.zero = some z) : ∃ us : Array Value, us.toList = (xs.map fun x => (a.eval x).cells.toList).flatten ∧
      (execOp a.eval o).run P w = .ok (.value (.slice (some ⟨w.heap.size, 0, none⟩) ps.size ps.size)) (w.alloc (.cells us e)) := by
  have hzero : ∃ zs : Array Value, (ps.size * sz = 0 ∧ zs = #[]) ∨ (¬ ps.size * sz = 0 ∧ ∃ z, (zeroValue e).run P w = .ok z w ∧ zs = z.cells) := by
    by_cases h : ps.size * sz = 0
    · exact ⟨#[], .inl ⟨h, rfl⟩⟩
    · rcases hz with hz | ⟨i, z, h1, h2⟩
      · exact absurd hz h
      · exact ⟨z.cells, .inr ⟨h, z, by simp [zeroValue, typeInfo, h1, h2], rfl⟩⟩
  obtain ⟨zs, hzs⟩ := hzero
  obtain ⟨us, h1, h2⟩ := fill_rows sz (xs.map a.eval) 0 ((Array.range (ps.size * sz)).map (zs[· % zs.size]!)) (by
    have := elemAt_len he
    simp at this ⊢; rw [this]; omega) (fun v hv => by obtain ⟨x, hx, rfl⟩ := List.mem_map.1 hv; exact hsz x hx)
  have hlen := elemAt_len he
  refine ⟨us, ?_, ?_⟩
  · rw [h2]
    simp only [Nat.zero_mul, List.take_zero, List.nil_append, Nat.zero_add, List.map_map]
    rw [List.drop_of_length_le (by simp at hlen ⊢; rw [hlen]; exact Nat.le_refl _)]
    simp [Function.comp_def]
  · have h3 : Instr.fill (fun i => some (i * sz, sz)) ((Array.range (ps.size * sz)).map (zs[· % zs.size]!)) (ps.map fun (i, x) => (i, a.eval x)).toList = some us := by
      rw [Array.toList_map, elemAt_zip he]; exact h1
    have h4 : ¬ (2 ^ 24 < ps.size * sz) := by omega
    rcases hzs with ⟨h0, rfl⟩ | ⟨h0, z, hz1, rfl⟩
    · simp only [execOp, hop, Instr.buildSlice, Sem.run_bind, run_underlying (slE_some hT), Result.andThen_ok, run_sizeOf' hs, gt_iff_lt, if_neg h4, if_pos h0, Sem.run_pure, h3, newRow, run_newObj, Sem.run_ite]
      rfl
    · simp only [execOp, hop, Instr.buildSlice, Sem.run_bind, run_underlying (slE_some hT), Result.andThen_ok, run_sizeOf' hs, gt_iff_lt, if_neg h4, if_neg h0, Sem.run_pure, hz1, h3, newRow, run_newObj, Sem.run_ite]
      rfl
end
end Go.Sy
