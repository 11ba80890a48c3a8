/- A region that draws its order: the text's order is enough. -/
import Derived.Test.YtfopdmoomdankaaSyP
set_option linter.unusedVariables false
set_option linter.unusedSimpArgs false
namespace Go.Sy
open Go

def I.isObj : I → Bool
  | .box _ _ => true
  | .alloc _ => true
  | .mks _ _ _ _ _ => true
  | .bsl own _ _ _ => own
  | _ => false

inductive Rv (K : Type) where | val (x : A K) | obj (ob : Ob K) | skip
def Rv.slot {K : Type} (r : Rv K) (d : Nat) : A K := match r with | .val x => x | .obj ob => objA ob d | .skip => .top
def Rv.hp {K : Type} (r : Rv K) (d : Nat) (h : List (Nat × Ob K)) : List (Nat × Ob K) := match r with | .val _ => h | .obj ob => (d, ob) :: h | .skip => h
def St.app {K : Type} (st : St K) (d : Option Nat) (r : Rv K) : St K := match d with | none => st | some d => { sl := (d, r.slot d) :: st.sl, hp := r.hp d st.hp }

section
variable {K : Type} (N : Hide) (D : Dx K) (R : List (Nat × Sp K))

/-- An operation that may come up early: no object that is there already is changed. -/
def fstep (st : St K) (s : SO) (q : St K → Prop) : Prop :=
  match s.i.isObj with
  | true => (match s.d with
    | some d => (match lk st.hp d with | none => os N D st (fun ob => q (st.app (some d) (.obj ob))) s.i | some _ => False)
    | none => False)
  | false => vs N D R st (fun x => q (st.app s.d (.val x))) s.i

def frees : List SO → St K → (St K → Prop) → Prop
  | [], st, q => q st
  | s :: r, st, q => match s.g with
    | none => fstep N D R st s (fun st' => frees r st' q)
    | some (t, b) => match lk st.sl t with
      | some (.b (.c (.v (.bool c)))) => (match c, b with
        | true, true => fstep N D R st s (fun st' => frees r st' q)
        | false, false => fstep N D R st s (fun st' => frees r st' q)
        | true, false => frees r (st.app s.d .skip) q
        | false, true => frees r (st.app s.d .skip) q)
      | _ => False

def freshAll : List SO → St K → St K
  | [], st => st
  | s :: r, st => match s.i.isObj, s.d with
    | true, some d => freshAll r (fresh st d)
    | _, _ => freshAll r st

/-- A region that draws its order: the first m operations in any order, the others behind them. -/
def anys (m : Nat) (l : List SO) (st : St K) (q : St K → Prop) : Prop :=
  frees N D R (tk m l) (freshAll (tk m l) st) fun st' => steps N D R (dr m l) st' q

def Fr (st : St K) (s : SO) (r : Rv K) : Prop :=
  match r with
  | .skip => gd st s.g False True
  | .val x => s.i.isObj = false ∧ gd st s.g (vs N D R st (fun y => y = x) s.i) False
  | .obj ob => s.i.isObj = true ∧ (∃ d, s.d = some d ∧ lk st.hp d = none) ∧ gd st s.g (os N D st (fun y => y = ob) s.i) False
end

section
variable {K : Type} {N : Hide} {P : Program} {D : Dx K} {R : List (Nat × Sp K)} {mb : Bw} {okc : Nat → Prop} {w0 w : World} {nt : Nat} {val : Nat → Option Value} {st st' : St K} {a : Act} {ops : Array Oper} {Q : Exit → Act → World → Prop}

theorem RB.live {D : Dom K} {ok : Nat → Prop} {x : B K} {y : Value} (h : RB D val ok w x y) {i : Nat} (hi : x.has i = true) : ∃ v, val i = some v := by
  cases x with
  | c x => exact Rc.live D h hi
  | g cs =>
    obtain ⟨us, _, hr⟩ := h
    obtain ⟨x, hx, hh⟩ := List.any_eq_true.1 hi
    obtain ⟨j, hj⟩ := List.mem_iff_getElem?.1 hx
    obtain ⟨y, _, h2⟩ := hr.2 j x hj
    exact h2.live D hh
theorem RA.live {D : Dom K} {ok : Nat → Prop} {x : A K} {y : Value} (h : RA D val ok w x y) {i : Nat} (hi : x.has i = true) : ∃ v, val i = some v := by
  cases x with
  | b x => exact RB.live h hi
  | top => cases hi
  | u xs =>
    obtain ⟨us, _, _, hr⟩ := h
    obtain ⟨x, hx, hh⟩ := List.any_eq_true.1 hi
    obtain ⟨j, hj⟩ := List.mem_iff_getElem?.1 hx
    obtain ⟨y, _, h2⟩ := hr j x hj
    exact h2.live hh
theorem Ag.refl (l : List O) : Ag st st l := fun x _ => ⟨rfl, fun i _ ob h => h⟩

theorem gd_mono {g : Option (Nat × Bool)} {p p' q q' : Prop} (h : gd st g p q) (hp : p → p') (hq : q → q') : gd st g p' q' := by
  unfold gd at h ⊢
  split at h
  · exact hp h
  · split at h
    · split at h
      · exact hp h
      · exact hp h
      · exact hq h
      · exact hq h
    · exact h.elim
theorem gd_or {g : Option (Nat × Bool)} {p q : Prop} (h : gd st g p q) : (p ∧ ∀ q', gd st g True q') ∨ (q ∧ ∀ p', gd st g p' True) := by
  unfold gd at h ⊢
  split at h
  · exact .inl ⟨h, fun _ => trivial⟩
  · split at h
    · split at h
      · exact .inl ⟨h, fun _ => trivial⟩
      · exact .inl ⟨h, fun _ => trivial⟩
      · exact .inr ⟨h, fun _ => trivial⟩
      · exact .inr ⟨h, fun _ => trivial⟩
    · exact h.elim

theorem fr_of {s : SO} {q : St K → Prop} (h : gd st s.g (fstep N D R st s q) (q (st.app s.d .skip))) : ∃ r, Fr N D R st s r ∧ q (st.app s.d r) := by
  rcases gd_or h with ⟨h1, h2⟩ | ⟨h1, h2⟩
  · unfold fstep at h1
    split at h1
    · rename_i ho
      split at h1
      · rename_i d hd
        split at h1
        · rename_i hn
          obtain ⟨ob, h3, h4⟩ := os_local (Ag.refl _) h1
          exact ⟨.obj ob, ⟨ho, ⟨d, hd, hn⟩, gd_mono (h2 False) (fun _ => h4 _ rfl) (fun f => f)⟩, by rw [hd]; exact h3⟩
        · exact h1.elim
      · exact h1.elim
    · rename_i ho
      obtain ⟨x, h3, h4⟩ := vs_local (Ag.refl _) h1
      exact ⟨.val x, ⟨ho, gd_mono (h2 False) (fun _ => h4 _ rfl) (fun f => f)⟩, h3⟩
  · exact ⟨.skip, h2 False, h1⟩

theorem frees_gd {s : SO} {r : List SO} {q : St K → Prop} (h : frees N D R (s :: r) st q) : gd st s.g (fstep N D R st s (fun st' => frees N D R r st' q)) (frees N D R r (st.app s.d .skip) q) := by
  simp only [frees] at h
  unfold gd
  exact h

theorem trace : ∀ (l : List SO) (st : St K) {q : St K → Prop}, frees N D R l st q → ∃ (sts : Nat → St K) (rv : Nat → Rv K), sts 0 = st ∧ (∀ i s, l[i]? = some s → Fr N D R (sts i) s (rv i) ∧ sts (i + 1) = (sts i).app s.d (rv i)) ∧ q (sts l.length)
  | [], st, q, h => ⟨fun _ => st, fun _ => .skip, rfl, fun i s hi => by simp at hi, h⟩
  | s :: l, st, q, h => by
    obtain ⟨r, h1, h2⟩ := fr_of (frees_gd h)
    obtain ⟨sts, rv, h3, h4, h5⟩ := trace l _ h2
    refine ⟨fun i => match i with | 0 => st | i + 1 => sts i, fun i => match i with | 0 => r | i + 1 => rv i, rfl, fun i s' hi => ?_, h5⟩
    cases i with
    | zero => simp at hi; subst hi; exact ⟨h1, h3⟩
    | succ i => exact h4 i s' (by simpa using hi)

theorem gd_loc {g : Option (Nat × Bool)} {p q : Prop} (hg : ∀ t b, g = some (t, b) → lk st'.sl t = lk st.sl t) (h : gd st g p q) : gd st' g p q := by
  unfold gd at h ⊢
  split at h
  · exact h
  · rename_i t b
    simp only [hg t b rfl]
    exact h

theorem fr_loc {s : SO} {r : Rv K} (h : Fr N D R st s r) (hag : Ag st st' s.i.opers) (hg : ∀ t b, s.g = some (t, b) → lk st'.sl t = lk st.sl t) (hn : ∀ d ob, s.d = some d → r = .obj ob → lk st'.hp d = none) : Fr N D R st' s r := by
  cases r with
  | skip => exact gd_loc hg h
  | val x =>
    refine ⟨h.1, gd_loc hg (gd_mono h.2 (fun h => ?_) (fun f => f))⟩
    obtain ⟨y, h1, h2⟩ := vs_local hag h
    exact h2 _ h1
  | obj ob =>
    obtain ⟨h0, ⟨d, hd, _⟩, h⟩ := h
    refine ⟨h0, ⟨d, hd, hn d ob hd rfl⟩, gd_loc hg (gd_mono h (fun h => ?_) (fun f => f))⟩
    obtain ⟨y, h1, h2⟩ := os_local hag h
    exact h2 _ h1

/-- It is carried out so. -/
theorem fr_sound {o : Oper} {s : SO} {r : Rv K} (hD : DomOk P D) (hR : ∀ f s, lk R f = some s → Meets P D.toDom f s) (hc : CmpO P nt ops o s) (hst : Rst D.toDom mb okc w0 nt val st a w) (h : Fr N D R st s r)
    (next : Act → World → Prop) (Q : Exit → Act → World → Prop) (hn : ∀ val' a' w', Rst D.toDom mb okc w0 nt val' (st.app s.d r) a' w' → next a' w') :
    if Region.wanted o (yielded ops a.tmps) then o.wp P a w next Q ∨ (o.asks P a w ∧ LetsOut Q) else next (a.put o.dst undef) w := by
  have hw : ∀ {p q : Prop}, gd st s.g p q → (p ∧ Region.wanted o (yielded ops a.tmps) = true) ∨ (q ∧ Region.wanted o (yielded ops a.tmps) = false) := by
    intro p q h
    unfold gd at h
    split at h
    · rename_i hg; exact .inl ⟨h, wanted_none hc.g hg _⟩
    · rename_i t b hg
      split at h
      · rename_i c hl
        have hw := wanted_some hc.g hg hst hl
        split at h
        · exact .inl ⟨h, by rw [hw]; rfl⟩
        · exact .inl ⟨h, by rw [hw]; rfl⟩
        · exact .inr ⟨h, by rw [hw]; rfl⟩
        · exact .inr ⟨h, by rw [hw]; rfl⟩
      · exact h.elim
  have hlt : ∀ t, o.dst = some t → t < nt := fun t ht => hc.lt t (by rw [← hc.dst]; exact ht)
  cases r with
  | skip =>
    rcases hw h with ⟨h, _⟩ | ⟨_, h⟩
    · exact h.elim
    · rw [h, hc.dst]
      refine hn val _ _ ?_
      have := hst.put D.toDom (x := .top) (y := undef) trivial hc.lt
      cases hd : s.d with
      | none => rw [hd] at this; exact this
      | some d => rw [hd] at this; exact this
  | val x =>
    obtain ⟨_, h⟩ := h
    rcases hw h with ⟨h, hwt⟩ | ⟨h, _⟩
    · rw [hwt]
      obtain ⟨y, rfl, hg⟩ := vs_sound hD hR hc.cmp hst h
      refine .inl (hg next Q fun y w' hst' hra => hn val _ _ ?_)
      have := hst'.put D.toDom hra hlt
      rw [← hc.dst]
      cases hd : o.dst with
      | none => rw [hd] at this; exact this
      | some d => rw [hd] at this; exact this
    · exact h.elim
  | obj ob =>
    obtain ⟨_, ⟨d, hd, hnone⟩, h⟩ := h
    rcases hw h with ⟨h, hwt⟩ | ⟨h, _⟩
    · rw [hwt]
      have hdo : o.dst = some d := by rw [hc.dst]; exact hd
      obtain ⟨ob', rfl, hl⟩ := os_sound hD hc.cmp hst hdo (hlt d hdo) hnone h
      refine .inl (hl next Q fun val' a' w' hst' => hn val' a' w' ?_)
      rw [hd]; exact hst'
    · exact h.elim

structure Sim (dst : Nat → Option Nat) (rv : Nat → Rv K) (m : Nat) (st0 : St K) (L : Nat → Prop) (st : St K) : Prop where
  s1 : ∀ j t, j < m → L j → dst j = some t → lk st.sl t = some ((rv j).slot t)
  s2 : ∀ t, (∀ j, j < m → L j → dst j ≠ some t) → lk st.sl t = lk st0.sl t
  h1 : ∀ j t ob, j < m → L j → dst j = some t → rv j = .obj ob → lk st.hp t = some ob
  h2 : ∀ t, (∀ j ob, j < m → L j → dst j = some t → rv j ≠ .obj ob) → lk st.hp t = lk st0.hp t

theorem Sim.step {dst : Nat → Option Nat} {rv : Nat → Rv K} {m : Nat} {st0 : St K} {L : Nat → Prop} (h : Sim dst rv m st0 L st) (hd : ∀ i j t, i < m → j < m → dst i = some t → dst j = some t → i = j) {i : Nat} (hi : i < m) (hL : ¬ L i) {L' : Nat → Prop} (hL' : ∀ j, L' j ↔ (L j ∨ j = i)) :
    Sim dst rv m st0 L' (st.app (dst i) (rv i)) := by
  cases hdi : dst i with
  | none =>
    refine ⟨fun j t hj hl ht => ?_, fun t ht => ?_, fun j t ob hj hl ht hr => ?_, fun t ht => ?_⟩
    · rcases (hL' j).1 hl with hl | rfl
      · exact h.s1 j t hj hl ht
      · rw [hdi] at ht; cases ht
    · exact h.s2 t fun j hj hl => ht j hj ((hL' j).2 (.inl hl))
    · rcases (hL' j).1 hl with hl | rfl
      · exact h.h1 j t ob hj hl ht hr
      · rw [hdi] at ht; cases ht
    · exact h.h2 t fun j ob hj hl => ht j ob hj ((hL' j).2 (.inl hl))
  | some d =>
    have hhp : ∀ t, t ≠ d → lk (st.app (some d) (rv i)).hp t = lk st.hp t := fun t ht => by
      simp only [St.app, Rv.hp]
      split
      · rfl
      · exact lk_cons_other ht _ _
      · rfl
    have hne : ∀ j t, j < m → L j → dst j = some t → t ≠ d := fun j t hj hl ht e => by
      subst e
      have := hd j i t hj hi ht hdi
      subst this; exact hL hl
    refine ⟨fun j t hj hl ht => ?_, fun t ht => ?_, fun j t ob hj hl ht hr => ?_, fun t ht => ?_⟩
    · rcases (hL' j).1 hl with hl | rfl
      · simp only [St.app]; rw [lk_cons_other (hne j t hj hl ht)]; exact h.s1 j t hj hl ht
      · rw [hdi] at ht; injection ht with ht; subst ht; simp only [St.app]; exact lk_cons_same _ _ _
    · have htd : t ≠ d := fun e => ht i hi ((hL' i).2 (.inr rfl)) (by rw [hdi, e])
      simp only [St.app]; rw [lk_cons_other htd]
      exact h.s2 t fun j hj hl => ht j hj ((hL' j).2 (.inl hl))
    · rcases (hL' j).1 hl with hl | rfl
      · rw [hhp t (hne j t hj hl ht)]; exact h.h1 j t ob hj hl ht hr
      · rw [hdi] at ht; injection ht with ht; subst ht
        simp only [St.app, hr, Rv.hp]; exact lk_cons_same _ _ _
    · by_cases htd : t = d
      · subst htd
        have hno : ∀ ob, rv i ≠ .obj ob := fun ob => ht i ob hi ((hL' i).2 (.inr rfl)) hdi
        have : lk (st.app (some t) (rv i)).hp t = lk st.hp t := by
          simp only [St.app, Rv.hp]
          split
          · rfl
          · rename_i ob heq; exact absurd heq (hno ob)
          · rfl
        rw [this]
        exact h.h2 t fun j ob hj hl => ht j ob hj ((hL' j).2 (.inl hl))
      · rw [hhp t htd]; exact h.h2 t fun j ob hj hl => ht j ob hj ((hL' j).2 (.inl hl))

/-- An operation that neither reads slot d nor writes d or x. -/
structure Apart (o : Oper) (s : SO) (d x : Nat) : Prop where
  op : Operand.tmp d ∉ o.op.operands
  g : ∀ b, s.g ≠ some (d, b)
  d1 : s.d ≠ some d
  d2 : s.d ≠ some x

structure AnyOk (ops : Array Oper) (sl : List SO) (m : Nat) (bit : Nat → Nat → Prop) (fl : Nat → Option (Nat × Nat)) : Prop where
  flok : ∀ j d x, fl j = some (d, x) → j < m ∧ sl[j]? = some ⟨some d, none, .mv (.t x)⟩ ∧ ∀ j' d' x', fl j' = some (d', x') → d' ≠ x
  mle : m ≤ ops.size
  back : ∀ i o, ops[i]? = some o → ∀ e ∈ o.after, Region.binds .any e = true → e.on < i
  dist : ∀ i j si sj t, i < m → j < m → sl[i]? = some si → sl[j]? = some sj → si.d = some t → sj.d = some t → i = j
  reads : ∀ i j o si sj t, i < m → j < m → ops[i]? = some o → sl[i]? = some si → sl[j]? = some sj → sj.d = some t → (O.t t ∈ si.i.opers ∨ ∃ b, si.g = some (t, b)) → j < i ∧ ∃ e ∈ o.after, Region.binds .any e = true ∧ e.on = j
  clos : ∀ i j o, ops[i]? = some o → bit i j → ∃ e ∈ o.after, Region.binds .any e = true ∧ (e.on = j ∨ bit e.on j)
  tail : ∀ i j, m ≤ i → i < ops.size → j < i → bit i j ∨ ∃ d x, fl j = some (d, x) ∧ ∀ o s, ops[i]? = some o → sl[i]? = some s → Apart o s d x
end
end Go.Sy
