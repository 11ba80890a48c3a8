/- A region in the text's order. -/
import Derived.Test.YtfopdmoomdankaaSyM
set_option linter.unusedVariables false
set_option linter.unusedSimpArgs false
namespace Go.Sy
open Go

structure SO where
  d : Option Nat
  g : Option (Nat × Bool)
  i : I

def gOk (ops : Array Oper) (o : Oper) (g : Option (Nat × Bool)) : Prop :=
  match o.guard, g with
  | none, none => True
  | some (j, b), some (t, b') => (ops[j]?).bind (·.dst) = some t ∧ b = b'
  | _, _ => False

structure CmpO (P : Program) (nt : Nat) (ops : Array Oper) (o : Oper) (s : SO) : Prop where
  cmp : Cmp P o.op s.i
  dst : o.dst = s.d
  g : gOk ops o s.g
  lt : ∀ t, s.d = some t → t < nt
  sto : ∀ sz x y, s.i = .sto sz x y → s.d = none

inductive CmpOs (P : Program) (nt : Nat) (ops : Array Oper) : List Oper → List SO → Prop
  | nil : CmpOs P nt ops [] []
  | cons {o s l m} : CmpO P nt ops o s → CmpOs P nt ops l m → CmpOs P nt ops (o :: l) (s :: m)

section
variable {K : Type} (N : Hide) (D : Dx K) (R : List (Nat × Sp K))

/-- Whether an operation is carried out. -/
def gd (st : St K) (g : Option (Nat × Bool)) (yes no : Prop) : Prop :=
  match g with
  | none => yes
  | some (t, b) => match lk st.sl t with
    | some (.b (.c (.v (.bool c)))) => (match c, b with | true, true => yes | false, false => yes | true, false => no | false, true => no)
    | _ => False

/-- A guard's slot, known. -/
def St.know (st : St K) (t : Nat) (b : Bool) : St K := { sl := (t, .b (.c (.v (.bool b)))) :: st.sl, hp := st.hp }
def steps : List SO → St K → (St K → Prop) → Prop
  | [], st, q => q st
  | s :: r, st, q => match s.g with
    | none => step N D R s.d st (fun st' => steps r st' q) s.i
    | some (t, b) => match lk st.sl t with
      | some (.b (.c (.v (.bool c)))) => (match b with
        | true => (match c with
          | true => step N D R s.d (st.know t true) (fun st' => steps r st' q) s.i
          | false => steps r ((st.know t false).put s.d .top) q)
        | false => (match c with
          | true => steps r ((st.know t true).put s.d .top) q
          | false => step N D R s.d (st.know t false) (fun st' => steps r st' q) s.i))
      | _ => False
end

section
variable {K : Type} {N : Hide} {P : Program} {D : Dx K} {R : List (Nat × Sp K)} {mb : Bw} {okc : Nat → Prop} {w0 w : World} {nt : Nat} {val : Nat → Option Value} {st : St K} {a : Act} {ops : Array Oper} {Q : Exit → Act → World → Prop}

theorem wanted_none {o : Oper} {g : Option (Nat × Bool)} (h : gOk ops o g) (hg : g = none) (tm : Array Value) : Region.wanted o (yielded ops tm) = true := by
  subst hg
  unfold gOk at h
  split at h
  · rename_i h1 _; simp [Region.wanted, h1]
  · rename_i h2; cases h2
  · exact h.elim

theorem wanted_some {o : Oper} {g : Option (Nat × Bool)} {t : Nat} {b c : Bool} (h : gOk ops o g) (hg : g = some (t, b)) (hst : Rst D.toDom mb okc w0 nt val st a w) (hl : lk st.sl t = some (.b (.c (.v (.bool c))))) :
    Region.wanted o (yielded ops a.tmps) = (c == b) := by
  subst hg
  unfold gOk at h
  split at h
  · rename_i h2; cases h2
  · rename_i j b1 t' b' h1 h2
    injection h2 with h2; injection h2 with e1 e2; subst e1; subst e2
    obtain ⟨h3, rfl⟩ := h
    obtain ⟨y, hy, n, hr⟩ := hst.sl t _ hl
    have hyv : y = .bool c := by cases n <;> exact hr.1
    subst hyv
    have hyl : yielded ops a.tmps j = some c := by simp [yielded, h3, hy]
    simp only [Region.wanted, h1, hyl]
    cases c <;> cases b1 <;> rfl
  · exact h.elim

/-- One operation of a region, its guard seen to. -/
theorem one_sound {o : Oper} {s : SO} (hD : DomOk P D) (hR : ∀ f s, lk R f = some s → Meets P D.toDom f s) (hc : CmpO P nt ops o s) (hst : Rst D.toDom mb okc w0 nt val st a w) {q : St K → Prop}
    (h : gd st s.g (step N D R s.d st q s.i) (q (st.put s.d .top))) : ∃ st', q st' ∧ ∀ (next : Act → World → Prop) (Q : Exit → Act → World → Prop), (∀ val' a' w', Rst D.toDom mb okc w0 nt val' st' a' w' → next a' w') →
      (if Region.wanted o (yielded ops a.tmps) then o.wp P a w next Q ∨ (o.asks P a w ∧ LetsOut Q) else next (a.put o.dst undef) w) := by
  have yes : Region.wanted o (yielded ops a.tmps) = true → step N D R s.d st q s.i → ∃ st', q st' ∧ ∀ (next : Act → World → Prop) (Q : Exit → Act → World → Prop), (∀ val' a' w', Rst D.toDom mb okc w0 nt val' st' a' w' → next a' w') →
      (if Region.wanted o (yielded ops a.tmps) then o.wp P a w next Q ∨ (o.asks P a w ∧ LetsOut Q) else next (a.put o.dst undef) w) := by
    intro hw h
    rw [← hc.dst] at h
    obtain ⟨st', hq, hl⟩ := step_sound hD hR hc.cmp hst (fun t ht => hc.lt t (by rw [← hc.dst]; exact ht)) (fun sz x y hs => by rw [hc.dst]; exact hc.sto sz x y hs) h
    exact ⟨st', hq, fun next Q hn => by rw [hw]; exact .inl (hl next Q hn)⟩
  have no : Region.wanted o (yielded ops a.tmps) = false → q (st.put s.d .top) → ∃ st', q st' ∧ ∀ (next : Act → World → Prop) (Q : Exit → Act → World → Prop), (∀ val' a' w', Rst D.toDom mb okc w0 nt val' st' a' w' → next a' w') →
      (if Region.wanted o (yielded ops a.tmps) then o.wp P a w next Q ∨ (o.asks P a w ∧ LetsOut Q) else next (a.put o.dst undef) w) := by
    intro hw h
    refine ⟨_, h, fun next Q hn => ?_⟩
    rw [hw, hc.dst]
    exact hn _ _ _ (hst.put D.toDom (x := .top) (y := undef) trivial hc.lt)
  unfold gd at h
  split at h
  · rename_i hg
    exact yes (wanted_none hc.g hg _) h
  · rename_i t b hg
    split at h
    · rename_i c hl
      have hw := wanted_some hc.g hg hst hl
      split at h
      · exact yes (by rw [hw]; rfl) h
      · exact yes (by rw [hw]; rfl) h
      · exact no (by rw [hw]; rfl) h
      · exact no (by rw [hw]; rfl) h
    · exact h.elim

/-- The same, as it is carried out. -/
theorem one_sound2 {o : Oper} {s : SO} (hD : DomOk P D) (hR : ∀ f s, lk R f = some s → Meets P D.toDom f s) (hc : CmpO P nt ops o s) (hst : Rst D.toDom mb okc w0 nt val st a w) {q : St K → Prop}
    (h : gd st s.g (step N D R s.d st q s.i) (q (st.put s.d .top))) : ∃ st', q st' ∧ ∀ (next : Act → World → Prop) (Q : Exit → Act → World → Prop), (∀ val' a' w', Rst D.toDom mb okc w0 nt val' st' a' w' → next a' w') →
      (if Region.wanted o (yielded ops a.tmps) then o.wp P a w next Q else next (a.put o.dst undef) w) := by
  have yes : Region.wanted o (yielded ops a.tmps) = true → step N D R s.d st q s.i → ∃ st', q st' ∧ ∀ (next : Act → World → Prop) (Q : Exit → Act → World → Prop), (∀ val' a' w', Rst D.toDom mb okc w0 nt val' st' a' w' → next a' w') →
      (if Region.wanted o (yielded ops a.tmps) then o.wp P a w next Q else next (a.put o.dst undef) w) := by
    intro hw h
    rw [← hc.dst] at h
    obtain ⟨st', hq, hl⟩ := step_sound hD hR hc.cmp hst (fun t ht => hc.lt t (by rw [← hc.dst]; exact ht)) (fun sz x y hs => by rw [hc.dst]; exact hc.sto sz x y hs) h
    exact ⟨st', hq, fun next Q hn => by rw [hw]; exact hl next Q hn⟩
  have no : Region.wanted o (yielded ops a.tmps) = false → q (st.put s.d .top) → ∃ st', q st' ∧ ∀ (next : Act → World → Prop) (Q : Exit → Act → World → Prop), (∀ val' a' w', Rst D.toDom mb okc w0 nt val' st' a' w' → next a' w') →
      (if Region.wanted o (yielded ops a.tmps) then o.wp P a w next Q else next (a.put o.dst undef) w) := by
    intro hw h
    refine ⟨_, h, fun next Q hn => ?_⟩
    rw [hw, hc.dst]
    exact hn _ _ _ (hst.put D.toDom (x := .top) (y := undef) trivial hc.lt)
  unfold gd at h
  split at h
  · rename_i hg
    exact yes (wanted_none hc.g hg _) h
  · rename_i t b hg
    split at h
    · rename_i c hl
      have hw := wanted_some hc.g hg hst hl
      split at h
      · exact yes (by rw [hw]; rfl) h
      · exact yes (by rw [hw]; rfl) h
      · exact no (by rw [hw]; rfl) h
      · exact no (by rw [hw]; rfl) h
    · exact h.elim

theorem Rst.ext {st' : St K} (h : Rst D.toDom mb okc w0 nt val st a w) (hs : ∀ t, lk st'.sl t = lk st.sl t) (hh : ∀ i, lk st'.hp i = lk st.hp i) : Rst D.toDom mb okc w0 nt val st' a w := by
  have hok : okS w0.heap.size okc st'.hp val = okS w0.heap.size okc st.hp val := by
    funext b
    simp only [okS, hh]
  refine ⟨h.keep, h.defs, h.size, fun t x hx => ?_, fun i ob hi => ?_, fun i hi => h.vl i (by rw [← hh]; exact hi), fun i j ob ob' v v' b hi hj => h.dj i j ob ob' v v' b (by rw [← hh]; exact hi) (by rw [← hh]; exact hj), h.bok, fun i ob v hp hi => h.pin i ob v hp (by rw [← hh]; exact hi), h.pinlt, h.ntle⟩
  · rw [hok]; exact h.sl t x (by rw [← hs]; exact hx)
  · rw [hok]; exact h.hp i ob (by rw [← hh]; exact hi)

theorem know_lk {t : Nat} {b : Bool} (h : lk st.sl t = some (.b (.c (.v (.bool b))))) (u : Nat) : lk (st.know t b).sl u = lk st.sl u := by
  by_cases hu : u = t
  · subst hu; simp only [St.know]; rw [lk_cons_same, h]
  · simp only [St.know]; rw [lk_cons_other hu]
theorem steps_gd {s : SO} {r : List SO} {q : St K → Prop} (h : steps N D R (s :: r) st q) :
    ∃ st1 : St K, (∀ t, lk st1.sl t = lk st.sl t) ∧ (∀ i, lk st1.hp i = lk st.hp i) ∧ gd st1 s.g (step N D R s.d st1 (fun st' => steps N D R r st' q) s.i) (steps N D R r (st1.put s.d .top) q) := by
  simp only [steps] at h
  split at h
  · rename_i hg
    exact ⟨st, fun _ => rfl, fun _ => rfl, by unfold gd; rw [hg]; exact h⟩
  · rename_i t b hg
    split at h
    · rename_i c hl
      refine ⟨st.know t c, know_lk hl, fun _ => rfl, ?_⟩
      unfold gd
      rw [hg]
      simp only [know_lk hl t, hl]
      cases b <;> cases c <;> exact h
    · exact h.elim

theorem wpOps_at {i : Nat} {o : Oper} {rest : List Nat} (h : ops[i]? = some o) :
    wpOps P ops Q (i :: rest) a w = (if Region.wanted o (yielded ops a.tmps) then o.wp P a w (wpOps P ops Q rest) Q ∨ (o.asks P a w ∧ LetsOut Q) else wpOps P ops Q rest (a.put o.dst undef) w) := by
  simp only [wpOps, h]

theorem steps_sound (hD : DomOk P D) (hR : ∀ f s, lk R f = some s → Meets P D.toDom f s) {q : St K → Prop} (hq : ∀ st val a w, q st → Rst D.toDom mb okc w0 nt val st a w → Q .normal a w) :
    ∀ (l : List Oper) (sl : List SO) (i : Nat) (st : St K) (val : Nat → Option Value) (a : Act) (w : World), (∀ j, l[j]? = ops[i + j]?) → CmpOs P nt ops l sl → Rst D.toDom mb okc w0 nt val st a w → steps N D R sl st q →
      wpOps P ops Q (List.range' i l.length) a w := by
  intro l
  induction l with
  | nil =>
    intro sl i st val a w hl hc hst h
    cases hc
    exact hq _ _ _ _ h hst
  | cons o l ih =>
    intro sl i st val a w hl hc hst h
    cases hc with
    | @cons _ s _ m hc hcs =>
      have ho : ops[i]? = some o := by have := hl 0; simpa using this.symm
      rw [List.length_cons, List.range'_succ, wpOps_at ho]
      obtain ⟨st1, g1, g2, hgd⟩ := steps_gd h
      obtain ⟨st', h1, h2⟩ := one_sound hD hR hc (hst.ext g1 g2) (q := fun st' => steps N D R m st' q) hgd
      exact h2 _ Q fun val' a' w' hst' => ih m (i + 1) st' val' a' w' (fun j => by have := hl (j + 1); simp at this; rw [this]; congr 1; omega) hcs hst' h1

/-- A region that draws no order. -/
theorem region_sound {id : Nat} {sl : List SO} (hD : DomOk P D) (hR : ∀ f s, lk R f = some s → Meets P D.toDom f s) (hc : CmpOs P nt ops ops.toList sl) (hst : Rst D.toDom mb okc w0 nt val st a w) {q : St K → Prop} (h : steps N D R sl st q)
    (hq : ∀ st val a w, q st → Rst D.toDom mb okc w0 nt val st a w → Q .normal a w) : (Code.region id ops false).wp P Q a w := by
  refine wp_region ?_
  have := steps_sound (Q := Q) hD hR hq ops.toList sl 0 st val a w (fun j => by simp) hc hst h
  rw [List.range_eq_range']
  simpa using this
end
end Go.Sy
