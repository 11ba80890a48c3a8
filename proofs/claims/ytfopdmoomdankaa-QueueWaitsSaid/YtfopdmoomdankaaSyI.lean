/- A value operation of the loaded code does what the abstract step says. -/
import Derived.Test.YtfopdmoomdankaaSyH
set_option linter.unusedVariables false
set_option linter.unusedSimpArgs false
namespace Go.Sy
open Go

section
variable {K : Type} {N : Hide} {P : Program} {D : Dx K} {R : List (Nat × Sp K)} {mb : Bw} {okc : Nat → Prop} {w0 w : World} {nt : Nat} {val : Nat → Option Value} {st : St K} {a : Act} {o : Oper}

theorem slE_some {T e : TypeId} (h : slE P T = some e) : P.underlying T = some (.slice e) := by
  unfold slE at h
  split at h
  · injection h with h; subst h; assumption
  · cases h
theorem intT_some {T : TypeId} {k : IntKind} (h : intT P T = some k) : P.underlying T = some (.int k) := by
  unfold intT at h
  split at h
  · injection h with h; subst h; assumption
  · cases h
theorem boolT_some {T : TypeId} (h : boolT P T = true) : P.underlying T = some .bool := by
  unfold boolT at h
  split at h
  · assumption
  · cases h
theorem strT_some {T : TypeId} (h : strT P T = true) : P.underlying T = some .string := by
  unfold strT at h
  split at h
  · assumption
  · cases h
theorem ptrT_some {T : TypeId} (h : ptrT P T = true) : P.underlying T = some (.pointer (P.pointee T)) := by
  unfold ptrT at h
  split at h
  · rename_i e he; rw [he]; simp [Program.pointee, he]
  · cases h

theorem args_rel {ok : Nat → Prop} {D : Dom K} (he : ∀ {x x'}, CO x x' → RA D val ok w (ev st x') (a.eval x)) : ∀ {xs : List Operand} {ys : List O}, COs xs ys → ∀ {nks : List (Option K)} {l : List (B K)},
    (∀ k, some k ∈ nks → D.ptr k = false ∧ D.len k = 0 ∧ D.wf k) → argsOf st nks ys = some l → RBs D ok w l (xs.map a.eval) := by
  intro xs ys hc
  induction hc with
  | nil => intro nks l hnk h; simp only [argsOf, Option.some.injEq] at h; subst h; exact ⟨rfl, fun j x hx => by simp at hx⟩
  | @cons x y xs ys hxy hc ih =>
    intro nks l hnk h
    simp only [argsOf] at h
    have hy := he hxy
    split at h
    · rename_i b hb
      rw [hb] at hy
      split at h
      · rename_i hclo
        split at h
        · rename_i l' hl'
          injection h with h; subst h
          have hb0 : RB D (fun _ => none) ok w b (a.eval x) := RB.clo hy hclo _
          have hn : RB D (fun _ => none) ok w (nrm (nkH nks) b) (a.eval x) := by
            cases nks with
            | nil => exact hb0
            | cons n m =>
              cases n with
              | none => exact hb0
              | some k =>
                simp only [nkH, nrm]
                split
                · obtain ⟨n0, h0⟩ := hb0
                  have hu : a.eval x = .slice none 0 0 := by cases n0 <;> exact h0.1
                  obtain ⟨k1, k2, k3⟩ := hnk k (by simp)
                  refine ⟨1, k3, ?_, .inl k2⟩
                  rw [k1, hu, k2]
                  exact ⟨none, 0, rfl, Nat.le_refl _, by simp [maxLen]⟩
                · exact hb0
          obtain ⟨j1, j2⟩ := ih (nks := nkT nks) (fun k hk => by
            cases nks with
            | nil => cases hk
            | cons n m => exact hnk k (List.mem_cons_of_mem _ hk)) hl'
          refine ⟨by simp [j1], fun j x' hx' => ?_⟩
          cases j with
          | zero => simp at hx'; subst hx'; exact ⟨_, rfl, hn⟩
          | succ j => simpa using j2 j x' (by simpa using hx')
        · cases h
      · cases h
    · cases h

theorem okS_mono {base : Nat} {okc : Nat → Prop} {w w' : World} {hp : List (Nat × Ob K)} (hs : base ≤ w.heap.size) (hlt : ∀ i ob v b, lk hp i = some ob → val i = some v → vblk v = some b → b < w.heap.size) :
    ∀ b, (b < w.heap.size → okS base okc hp val b) → okS base okc hp val b := fun b h => by
  by_cases hb : b < w.heap.size
  · exact h hb
  · exact ⟨fun h' => by omega, fun i ob v hi hv hbb => hb (hlt i ob v b hi hv hbb)⟩

theorem RA_closed {D : Dom K} {ok ok' : Nat → Prop} {w : World} {x : A K} {y : Value} (h : RA D (fun _ => none) ok w x y) (hok : ∀ b, ok b → ok' b) (val : Nat → Option Value) : RA D val ok' w x y := by
  have := h.map D (σ := id) (val' := val) (ok' := ok') (w' := w) (fun x y hxy => hxy.mv' D ⟨fun b _ hb => ⟨hok b hb, rfl⟩, Nat.le_refl _⟩ fun i v hi => by cases hi)
  rwa [A.map_id] at this

theorem gives_call {n : Nat} {s : Sp K} {ys : List (B K)} {us : List Value} {q : A K → Prop} {pre : Prop} {r : A K} (hst : Rst D.toDom mb okc w0 nt val st a w) (hm : Meets P D.toDom n s)
    (hrun : (execOp a.eval o).run P w = (callFunc n us.toArray).run P w) (hr : RBs D.toDom (okS w0.heap.size okc st.hp val) w ys us) (hlen : ys.length = s.ar) (hs : s.f ys = some (pre, r)) (hpre : pre) (hq : q r) : ∃ x, q x ∧ Gives P D mb okc w0 nt val st a w o x := by
  obtain ⟨hent, _, hc, _⟩ := hm
  refine ⟨r, hq, fun next Q hn => ?_⟩
  have hcf : (callFunc n us.toArray).run P w = .ok (.enter n us.toArray) w := by
    unfold enters at hent
    cases hf : P.funcs[n]? with
    | none => simp [hf] at hent
    | some fn =>
      simp only [hf] at hent
      have h1 : (fn.name == "runtime.NumGoroutine") = false := by
        cases h : fn.name == "runtime.NumGoroutine" <;> simp_all
      have h2 : fn.body.isNone = false := by
        cases h : fn.body <;> simp_all
      have h1' : ¬ fn.name = "runtime.NumGoroutine" := by simpa using h1
      have h2' : ¬ fn.body = none := by intro e; simp [e] at h2
      simp [callFunc, hf, h1', h2']
  unfold Oper.wp
  rw [hrun, hcf, Oper.upon_enter]
  refine (hc ys pre r hlen hs hpre _ w us hr).mono ?_
  rintro e w' ⟨v, rfl, hk, hra⟩
  have hst' := hst.world D.toDom hk
  refine hn v w' hst' (RA_closed hra (okS_mono (w' := w') hst.keep.size fun i ob v b hi hv hb => ?_) val)
  obtain ⟨v', h1, _, h3⟩ := hst.hp i ob hi
  rw [hv] at h1; injection h1 with h1; subst h1
  exact (h3 b hb).1

theorem Rst.hplt (hst : Rst D.toDom mb okc w0 nt val st a w) {i : Nat} {ob : Ob K} {v : Value} {b : Nat} (hi : lk st.hp i = some ob) (hv : val i = some v) (hb : vblk v = some b) : b < w.heap.size := by
  obtain ⟨v', h1, _, h3⟩ := hst.hp i ob hi
  rw [hv] at h1; injection h1 with h1; subst h1
  exact (h3 b hb).1
theorem Rst.hpval (hst : Rst D.toDom mb okc w0 nt val st a w) {i : Nat} {ob : Ob K} (hi : lk st.hp i = some ob) : ∃ v, val i = some v ∧ obRel D.toDom val (okS w0.heap.size okc st.hp val) w ob v := by
  obtain ⟨v, h1, h2, _⟩ := hst.hp i ob hi
  exact ⟨v, h1, h2⟩

/-- Known data's length, as a slice. -/
theorem im_slice {D : Dom K} {ok : Nat → Prop} {m : Nat} {k : K} {u : Value} (h : Im D ok w (RC D ok w m fun _ => none) k u) (hp : D.ptr k = false) :
    ∃ ad c, u = .slice ad (D.len k) c ∧ D.len k ≤ c ∧ c ≤ maxLen ∧ (D.len k = 0 ∨ ∃ b off, ad = some ⟨b, off, none⟩ ∧ ok b ∧ b < w.heap.size ∧ ∀ (m' : Nat) (x : C K), (D.flat k)[m']? = some x → ∃ y, w.cell? ⟨b, off + m', none⟩ = some y ∧ RC D ok w m (fun _ => none) x y) := by
  obtain ⟨_, h2, h3⟩ := h
  rw [hp] at h2
  obtain ⟨ad, c, rfl, h4, h5⟩ := h2
  refine ⟨ad, c, rfl, h4, h5, ?_⟩
  rcases h3 with h3 | ⟨b, off, hb, rest⟩
  · exact .inl h3
  · exact .inr ⟨b, off, hb, rest⟩
theorem im_ptr {D : Dom K} {ok : Nat → Prop} {m : Nat} {k : K} {u : Value} (h : Im D ok w (RC D ok w m fun _ => none) k u) (hp : D.ptr k = true) :
    ∃ b off, u = .pointer (some ⟨b, off, none⟩) := by
  obtain ⟨_, h2, h3⟩ := h
  rw [hp] at h2
  obtain ⟨ad, rfl⟩ := h2
  have := D.ptr_len k hp
  rcases h3 with h3 | ⟨b, off, hb, rest⟩
  · omega
  · simp only [vbase] at hb; subst hb; exact ⟨b, off, rfl⟩

theorem Rs_closed {D : Dom K} {ok : Nat → Prop} {xs : List (C K)} {ys : List Value} (h : Rs D (fun _ => none) ok w xs ys) (val : Nat → Option Value) : Rs D val ok w xs ys :=
  h.mv D (Mv.refl _ _) fun i hi => by
    obtain ⟨x, hx, hh⟩ := List.any_eq_true.1 hi
    obtain ⟨j, hj⟩ := List.mem_iff_getElem?.1 hx
    obtain ⟨y, _, hr⟩ := h.2 j x hj
    obtain ⟨v, hv⟩ := hr.live D hh
    cases hv
theorem Rs.cast {D : Dom K} {ok : Nat → Prop} {xs : List (C K)} {ys ys' : List Value} (h : Rs D val ok w xs ys) (e : ys = ys') : Rs D val ok w xs ys' := e ▸ h
theorem Rs.castl {D : Dom K} {ok : Nat → Prop} {xs xs' : List (C K)} {ys : List Value} (h : Rs D val ok w xs ys) (e : xs = xs') : Rs D val ok w xs' ys := e ▸ h
theorem RC_Rc {D : Dom K} {ok : Nat → Prop} {m : Nat} {x : C K} {y : Value} (h : RC D ok w m (fun _ => none) x y) (val : Nat → Option Value) : Rc D val ok w x y :=
  Rc.mv' D ⟨m, h⟩ (Mv.refl _ _) fun i v hi => by cases hi
end
end Go.Sy
