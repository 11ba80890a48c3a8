/- A region that draws its order: the theorem. -/
import Derived.Test.YtfopdmoomdankaaSyQ
set_option linter.unusedVariables false
set_option linter.unusedSimpArgs false
namespace Go.Sy
open Go

/-- How many have not come up yet. -/
def cnt (n : Nat) (listed : Array Bool) : Nat := ((List.range n).filter fun i => !listed.getD i true).length

theorem cnt_set {n i : Nat} {listed : Array Bool} (hi : i < n) (hs : listed.size = n) (hl : listed.getD i true = false) : cnt n (listed.setIfInBounds i true) < cnt n listed := by
  unfold cnt
  have : (List.range n).filter (fun j => !(listed.setIfInBounds i true).getD j true) = ((List.range n).filter fun j => !listed.getD j true).filter (fun j => j != i) := by
    rw [List.filter_filter]
    apply List.filter_congr
    intro j hj
    by_cases hji : j = i
    · subst hji; simp [Array.getD, hs, hi]
    · have : (listed.setIfInBounds i true).getD j true = listed.getD j true := by
        simp only [Array.getD_eq_getD_getElem?, Array.getElem?_setIfInBounds]
        rw [if_neg (fun e => hji e.symm)]
      rw [this]; simp [hji]
  rw [this]
  refine List.length_filter_lt_length_iff_exists.2 ⟨i, ?_, by simp⟩
  rw [List.mem_filter]
  exact ⟨List.mem_range.2 hi, by rw [hl]; rfl⟩

section
variable {K : Type} {N : Hide} {P : Program} {D : Dx K} {R : List (Nat × Sp K)} {mb : Bw} {okc : Nat → Prop} {w0 w : World} {nt : Nat} {val : Nat → Option Value} {st st' : St K} {a : Act} {ops : Array Oper} {Q : Exit → Act → World → Prop}

theorem CmpOs.get : ∀ {l : List Oper} {sl : List SO}, CmpOs P nt ops l sl → ∀ {i : Nat} {o : Oper}, l[i]? = some o → ∃ s, sl[i]? = some s ∧ CmpO P nt ops o s
  | _, _, .nil, i, o, h => by simp at h
  | _, _, .cons hc hcs, i, o, h => by
    cases i with
    | zero => simp at h; subst h; exact ⟨_, rfl, hc⟩
    | succ i => obtain ⟨s, h1, h2⟩ := hcs.get (i := i) (by simpa using h); exact ⟨s, by simpa using h1, h2⟩
theorem CmpOs.len : ∀ {l : List Oper} {sl : List SO}, CmpOs P nt ops l sl → l.length = sl.length
  | _, _, .nil => rfl
  | _, _, .cons _ hcs => by simp [hcs.len]

theorem freshAll_rst : ∀ (l : List SO) {st : St K} {val : Nat → Option Value}, Rst D.toDom mb okc w0 nt val st a w → ∃ val', Rst D.toDom mb okc w0 nt val' (freshAll l st) a w
  | [], st, val, h => ⟨val, h⟩
  | s :: r, st, val, h => by
    simp only [freshAll]
    split
    · rename_i d _ _
      obtain ⟨val', h', _⟩ := fresh_rst h d
      exact freshAll_rst r h'
    · exact freshAll_rst r h

set_option maxHeartbeats 2000000 in
/-! ### Moves that hang about -/
/-- The frame as if all moves that are still to come had come. -/
structure VF (fl : Nat → Option (Nat × Nat)) (L : Nat → Prop) (a a' : Act) : Prop where
  df : a'.defers = a.defers
  sz : a'.tmps.size = a.tmps.size
  at1 : ∀ j d x, fl j = some (d, x) → ¬ L j → a'.tmps[d]? = some (a.tmps.getD x undef)
  at2 : ∀ t, (∀ j d x, fl j = some (d, x) → ¬ L j → d ≠ t) → a'.tmps[t]? = a.tmps[t]?

open Classical in
theorem VF.make {fl : Nat → Option (Nat × Nat)} {L : Nat → Prop} {a : Act} (hlt : ∀ j d x, fl j = some (d, x) → d < a.tmps.size) (huni : ∀ j j' d x x', fl j = some (d, x) → fl j' = some (d, x') → j = j') : ∃ a', VF fl L a a' := by
  let tm : Array Value := (Array.range a.tmps.size).map fun t => if h : ∃ p : Nat × Nat, fl p.1 = some (t, p.2) ∧ ¬ L p.1 then a.tmps.getD (Classical.choose h).2 undef else a.tmps.getD t undef
  have hsz : tm.size = a.tmps.size := by simp [tm]
  have hget : ∀ t, t < a.tmps.size → tm[t]? = some (if h : ∃ p : Nat × Nat, fl p.1 = some (t, p.2) ∧ ¬ L p.1 then a.tmps.getD (Classical.choose h).2 undef else a.tmps.getD t undef) := by
    intro t ht
    simp only [tm, Array.getElem?_map, Array.getElem?_range, ht, if_true, Option.map_some]
  refine ⟨{ tmps := tm, defers := a.defers }, rfl, hsz, fun j d x hj hl => ?_, fun t ht => ?_⟩
  · have hd := hlt j d x hj
    rw [hget d hd]
    have h : ∃ p : Nat × Nat, fl p.1 = some (d, p.2) ∧ ¬ L p.1 := ⟨(j, x), hj, hl⟩
    rw [dif_pos h]
    have h2 := (Classical.choose_spec h).1
    have h3 := huni _ _ _ _ _ h2 hj
    rw [h3, hj] at h2
    injection h2 with h2; injection h2 with _ h2
    rw [← h2]
  · by_cases hts : t < a.tmps.size
    · rw [hget t hts, dif_neg]
      · simp [hts]
      · rintro ⟨p, h1, h2⟩
        exact ht p.1 t p.2 h1 h2 rfl
    · rw [Array.getElem?_eq_none (show tm.size ≤ t by omega), Array.getElem?_eq_none (by omega)]

theorem VF.eq {fl : Nat → Option (Nat × Nat)} {L : Nat → Prop} {a a' : Act} (h : VF fl L a a') (hl : ∀ j d x, fl j = some (d, x) → L j) : a' = a := by
  cases a with
  | mk tm df =>
    cases a' with
    | mk tm' df' =>
      have h1 := h.df
      simp only at h1
      subst h1
      congr 1
      apply Array.ext_getElem?
      intro t
      exact h.at2 t fun j d x hj hn => absurd (hl j d x hj) hn

theorem VF.put {fl : Nat → Option (Nat × Nat)} {L L' : Nat → Prop} {a a' : Act} (h : VF fl L a a') {dst : Option Nat} {y : Value} (hL : ∀ j d x, fl j = some (d, x) → (L' j ↔ L j))
    (hd : ∀ j d x, fl j = some (d, x) → ¬ L j → dst ≠ some d ∧ dst ≠ some x) : VF fl L' (a.put dst y) (a'.put dst y) := by
  cases dst with
  | none =>
    exact ⟨h.df, h.sz, fun j d x hj hn => h.at1 j d x hj (fun hl => hn ((hL j d x hj).2 hl)), fun t ht => h.at2 t fun j d x hj hn => ht j d x hj fun hl => hn ((hL j d x hj).1 hl)⟩
  | some e =>
    refine ⟨h.df, by simp [Act.put, h.sz], fun j d x hj hn => ?_, fun t ht => ?_⟩
    · have hn' : ¬ L j := fun hl => hn ((hL j d x hj).2 hl)
      obtain ⟨h1, h2⟩ := hd j d x hj hn'
      rw [tmps_put, if_neg (fun e' => h1 (by rw [e'])), h.at1 j d x hj hn']
      congr 1
      have := tmps_put (a := a) (d := e) (y := y) x
      rw [if_neg (fun e' => h2 (by rw [e']))] at this
      rw [Array.getD_eq_getD_getElem?, Array.getD_eq_getD_getElem?, this]
    · rw [tmps_put, tmps_put, h.sz]
      split
      · rfl
      · exact h.at2 t fun j d x hj hn => ht j d x hj fun hl => hn ((hL j d x hj).1 hl)

/-- What holds of the one frame holds of the other. -/
theorem wp_virt {o : Oper} {a a' : Act} {w : World} {next next' : Act → World → Prop} {Q : Exit → Act → World → Prop} (he : execOp a.eval o = execOp a'.eval o)
    (hn : ∀ y w', next' (a'.put o.dst y) w' → next (a.put o.dst y) w') (hdf : ∀ a1 w1, next' a1 w1 → a1.defers = a'.defers) (h : o.wp P a' w next' (fun _ _ _ => False)) : o.wp P a w next Q := by
  unfold Oper.wp at h ⊢
  rw [he]
  generalize (execOp a'.eval o).run P w = r at h
  cases r with
  | ok n w' =>
    cases n with
    | value v => exact hn _ _ h
    | skip => exact hn _ _ h
    | defer d =>
      have h1 := hdf _ _ h
      rw [put_defers] at h1
      have := congrArg List.length h1
      simp at this
    | enter f args =>
      refine Calls.mono h ?_
      intro e w'' h1
      cases e with
      | returned v => exact hn _ _ h1
      | panicked c => exact h1.elim
      | outgrown => obtain ⟨_, _, h1⟩ := h1; exact h1.elim
    | row row args => exact Rows.mono h fun v w'' h1 => hn _ _ h1
    | _ => exact h.elim
  | halt e w' =>
    cases e with
    | panic v => exact h.elim
    | _ => exact h.elim

theorem cmp_plain {o : Op} {i : I} (h : Cmp P o i) : (∀ cs b, o ≠ .select cs b) ∧ ∀ c, o ≠ .defer c := by
  cases h <;> exact ⟨fun _ _ => by simp, fun _ => by simp⟩

theorem any_sound {sl : List SO} {m : Nat} {bit : Nat → Nat → Prop} {fl : Nat → Option (Nat × Nat)} (hD : DomOk P D) (hR : ∀ f s, lk R f = some s → Meets P D.toDom f s) (hc : CmpOs P nt ops ops.toList sl) (hok : AnyOk ops sl m bit fl) {q : St K → Prop}
    (hq : ∀ st val a w, q st → Rst D.toDom mb okc w0 nt val st a w → Q .normal a w) {st0 : St K} (hst0 : Rst D.toDom mb okc w0 nt val st0 a w) (h : frees N D R (tk m sl) st0 fun st' => steps N D R (dr m sl) st' q) :
    wpAny P .any ops Q ops.size (Array.replicate ops.size false) a w := by
  have hlen : sl.length = ops.size := by have := hc.len; simpa using this.symm
  rw [tk_eq, dr_eq] at h
  obtain ⟨sts, rv, t0, t1, t2⟩ := trace _ _ h
  have htl : (sl.take m).length = m := by have := hok.mle; simp; omega
  rw [htl] at t2
  let dst : Nat → Option Nat := fun j => (sl[j]?).bind (·.d)
  have hdst : ∀ i j t, i < m → j < m → dst i = some t → dst j = some t → i = j := by
    intro i j t hi hj h1 h2
    simp only [dst] at h1 h2
    cases hsi : sl[i]? with
    | none => simp [hsi] at h1
    | some si =>
      cases hsj : sl[j]? with
      | none => simp [hsj] at h2
      | some sj =>
        simp [hsi] at h1; simp [hsj] at h2
        exact hok.dist i j si sj t hi hj hsi hsj h1 h2
  have t1' : ∀ i, i < m → ∃ s, sl[i]? = some s ∧ dst i = s.d ∧ Fr N D R (sts i) s (rv i) ∧ sts (i + 1) = (sts i).app s.d (rv i) := by
    intro i hi
    have hil : i < sl.length := by have := hok.mle; omega
    have hs : sl[i]? = some sl[i] := List.getElem?_eq_getElem hil
    obtain ⟨h1, h2⟩ := t1 i sl[i] (by rw [List.getElem?_take, if_pos hi]; exact hs)
    exact ⟨_, hs, by simp only [dst, hs]; rfl, h1, h2⟩
  have simT : ∀ i, i ≤ m → Sim dst rv m st0 (· < i) (sts i) := by
    intro i
    induction i with
    | zero => intro _; rw [t0]; exact ⟨fun j t _ hl => absurd hl (Nat.not_lt_zero _), fun _ _ => rfl, fun j t ob _ hl => absurd hl (Nat.not_lt_zero _), fun _ _ => rfl⟩
    | succ i ih =>
      intro hi
      obtain ⟨s, _, hd, _, h2⟩ := t1' i (by omega)
      rw [h2, ← hd]
      exact (ih (by omega)).step hdst (by omega) (Nat.lt_irrefl i) fun j => by omega
  -- what is made new was not there before
  have hnew : ∀ i ob d, i < m → rv i = .obj ob → dst i = some d → lk st0.hp d = none := by
    intro i ob d hi hr hd
    obtain ⟨s, hs, hds, hfr, _⟩ := t1' i hi
    rw [hr] at hfr
    obtain ⟨_, ⟨d', hd', hn⟩, _⟩ := hfr
    rw [hds, hd'] at hd; injection hd with hd; subst hd
    rw [← (simT i (by omega)).h2 d' fun j ob' hj hl hdj hrj => ?_]
    · exact hn
    · have := hdst j i d' hj hi hdj (by rw [hds, hd'])
      omega
  let L : Array Bool → Nat → Prop := fun listed j => listed.getD j false = true
  let Inv : Array Bool → Act → World → Prop := fun listed a w =>
    listed.size = ops.size ∧ (∀ i j, L listed i → bit i j → L listed j) ∧
    (((∀ i, L listed i → i < m) ∧ ∃ st val, Rst D.toDom mb okc w0 nt val st a w ∧ Sim dst rv m st0 (L listed) st) ∨
     (∃ i, m ≤ i ∧ i ≤ ops.size ∧ (∀ j, L listed j → j < i) ∧ (∀ j, j < i → fl j = none → L listed j) ∧ ∃ st val a', VF fl (L listed) a a' ∧ Rst D.toDom mb okc w0 nt val st a' w ∧ steps N D R (sl.drop i) st q))
  have getLt : ∀ (listed : Array Bool) j, listed.size = ops.size → L listed j → j < ops.size := by
    intro listed j hs hl
    rcases Nat.lt_or_ge j ops.size with h | h
    · exact h
    · simp only [L] at hl
      rw [Array.getD_eq_getD_getElem?, Array.getElem?_eq_none (by omega)] at hl; cases hl
  have setL : ∀ (listed : Array Bool) i j, listed.size = ops.size → i < ops.size → (L (listed.setIfInBounds i true) j ↔ (L listed j ∨ j = i)) := by
    intro listed i j hs hi
    simp only [L, Array.getD_eq_getD_getElem?, Array.getElem?_setIfInBounds]
    by_cases hji : i = j
    · subst hji; simp [hs, hi]
    · rw [if_neg hji]; exact ⟨fun h => .inl h, fun h => h.elim id (fun e => absurd e.symm hji)⟩
  have flsl : ∀ j d x, fl j = some (d, x) → j < m ∧ dst j = some d := fun j d x hj => by
    obtain ⟨h1, h2, _⟩ := hok.flok j d x hj
    exact ⟨h1, by simp only [dst, h2]; rfl⟩
  have flrv : ∀ j d x, fl j = some (d, x) → rv j = .val (ev (sts j) (.t x)) := by
    intro j d x hj
    obtain ⟨h1, h2, _⟩ := hok.flok j d x hj
    obtain ⟨s, hs, _, hfr, _⟩ := t1' j h1
    rw [h2] at hs; injection hs with hs; subst hs
    cases hr : rv j with
    | val y =>
      rw [hr] at hfr
      have h3 := hfr.2
      simp only [gd, vs] at h3
      rw [h3]
    | obj ob => rw [hr] at hfr; have := hfr.1; simp [I.isObj] at this
    | skip => rw [hr] at hfr; simp [Fr, gd] at hfr
  have mk2 : ∀ (listed : Array Bool) a w, listed.size = ops.size → (∀ j, L listed j → j < m) → (∀ j, j < m → fl j = none → L listed j) → (∃ st val, Rst D.toDom mb okc w0 nt val st a w ∧ Sim dst rv m st0 (L listed) st) →
      ∃ st val a', VF fl (L listed) a a' ∧ Rst D.toDom mb okc w0 nt val st a' w ∧ steps N D R (sl.drop m) st q := by
    intro listed a w hs hl1 hl2 ⟨st, val, hst, hsim⟩
    have hT := simT m (Nat.le_refl _)
    have hdlt : ∀ j d x, fl j = some (d, x) → d < a.tmps.size := by
      intro j d x hj
      obtain ⟨h1, h2, _⟩ := hok.flok j d x hj
      have hjo : j < ops.size := Nat.lt_of_lt_of_le h1 hok.mle
      obtain ⟨s, h3, h4⟩ := hc.get (i := j) (o := ops[j]) (by simp)
      rw [h2] at h3; injection h3 with h3; subst h3
      rw [hst.size]; exact h4.lt d rfl
    obtain ⟨a', hvf⟩ := VF.make (L := L listed) hdlt fun j j' d x x' hj hj' => hdst j j' d (flsl j d x hj).1 (flsl j' d x' hj').1 (flsl j d x hj).2 (flsl j' d x' hj').2
    have hhp : ∀ i, lk (sts m).hp i = lk st.hp i := by
      intro i
      by_cases hj : ∃ j ob, j < m ∧ dst j = some i ∧ rv j = .obj ob
      · obtain ⟨j, ob, hj, hd, hr⟩ := hj
        have hL : L listed j := by
          refine hl2 j hj ?_
          cases hf : fl j with
          | none => rfl
          | some p => obtain ⟨d, x⟩ := p; have := flrv j d x hf; rw [hr] at this; cases this
        rw [hT.h1 j i ob hj hj hd hr, hsim.h1 j i ob hj hL hd hr]
      · rw [hT.h2 i fun j ob hj' _ hd hr => hj ⟨j, ob, hj', hd, hr⟩, hsim.h2 i fun j ob hj' _ hd hr => hj ⟨j, ob, hj', hd, hr⟩]
    have hokS : okS w0.heap.size okc (sts m).hp val = okS w0.heap.size okc st.hp val := by
      funext b
      simp only [okS, hhp]
    refine ⟨sts m, val, a', hvf, ⟨hst.keep, by rw [hvf.df]; exact hst.defs, by rw [hvf.sz]; exact hst.size, fun t x hx => ?_, fun i ob hi => ?_, fun i hi => hst.vl i (by rw [← hhp]; exact hi), fun i j ob ob' v v' b hi hj => hst.dj i j ob ob' v v' b (by rw [← hhp]; exact hi) (by rw [← hhp]; exact hj), hst.bok, fun i ob v hp hi => hst.pin i ob v hp (by rw [← hhp]; exact hi), hst.pinlt, hst.ntle⟩, t2⟩
    · rw [hokS]
      by_cases hp : ∃ j d x, fl j = some (d, x) ∧ ¬ L listed j ∧ d = t
      · obtain ⟨j, d, y, hj, hnl, rfl⟩ := hp
        obtain ⟨h1, h2⟩ := flsl j d y hj
        have hsl := hT.s1 j d h1 h1 h2
        rw [hx, flrv j d y hj] at hsl
        injection hsl with hsl
        simp only [Rv.slot] at hsl
        refine ⟨_, hvf.at1 j d y hj hnl, ?_⟩
        -- the source stands as it stood
        have hsrc : lk (sts j).sl y = lk st.sl y := by
          have hTj := simT j (by omega)
          by_cases hp : ∃ p, p < m ∧ dst p = some y
          · obtain ⟨p, hpm, hpd⟩ := hp
            have hjo : j < ops.size := Nat.lt_of_lt_of_le h1 hok.mle
            obtain ⟨h3, h4, h5⟩ := hok.flok j d y hj
            have hps : ∃ sp, sl[p]? = some sp ∧ sp.d = some y := by
              simp only [dst] at hpd
              cases hsp : sl[p]? with
              | none => simp [hsp] at hpd
              | some sp => simp [hsp] at hpd; exact ⟨sp, rfl, hpd⟩
            obtain ⟨sp, hsp, hspd⟩ := hps
            obtain ⟨hpj, _⟩ := hok.reads j p ops[j] _ sp y h1 hpm (Array.getElem?_eq_getElem hjo) h4 hsp hspd (.inl (by simp [I.opers]))
            have hLp : L listed p := by
              refine hl2 p hpm ?_
              cases hf : fl p with
              | none => rfl
              | some e =>
                obtain ⟨d', x'⟩ := e
                have h6 := (flsl p d' x' hf).2
                rw [hpd] at h6; injection h6 with h6
                exact absurd h6.symm (h5 p d' x' hf)
            rw [hTj.s1 p y hpm hpj hpd, hsim.s1 p y hpm hLp hpd]
          · rw [hTj.s2 y fun p hpm _ hpd => hp ⟨p, hpm, hpd⟩, hsim.s2 y fun p hpm _ hpd => hp ⟨p, hpm, hpd⟩]
        rw [hsl]
        simp only [ev, hsrc]
        cases hly : lk st.sl y with
        | none => trivial
        | some z =>
          obtain ⟨u, h6, h7⟩ := hst.sl y z hly
          rw [Array.getD_eq_getD_getElem?, h6]
          exact h7
      · rw [hvf.at2 t fun j d x hj hn e => hp ⟨j, d, x, hj, hn, e⟩]
        refine hst.sl t x ?_
        by_cases hnj : ∃ j, j < m ∧ dst j = some t
        · obtain ⟨j, hj, hd⟩ := hnj
          have hLj : L listed j := by
            cases hf : fl j with
            | none => exact hl2 j hj hf
            | some e =>
              obtain ⟨d', x'⟩ := e
              have h6 := (flsl j d' x' hf).2
              rw [hd] at h6; injection h6 with h6
              exact Classical.byContradiction fun hn => hp ⟨j, d', x', hf, hn, h6.symm⟩
          rw [← hx, hT.s1 j t hj hj hd, hsim.s1 j t hj hLj hd]
        · rw [← hx, hT.s2 t fun j hj' _ hd => hnj ⟨j, hj', hd⟩, hsim.s2 t fun j hj' _ hd => hnj ⟨j, hj', hd⟩]
    · rw [hokS]; exact hst.hp i ob (by rw [← hhp]; exact hi)
  -- what may come up has its edges behind it
  have readyL : ∀ (listed : Array Bool) k, listed.size = ops.size → k ∈ Region.ready .any ops listed → ∃ o, ops[k]? = some o ∧ k < ops.size ∧ ¬ L listed k ∧ listed.getD k true = false ∧ ∀ e ∈ o.after, Region.binds .any e = true → L listed e.on := by
    intro listed k hs hk
    obtain ⟨h1, o, h2, h3⟩ := mem_ready.1 hk
    have hkl : k < ops.size := (Array.getElem?_eq_some_iff.1 h2).1
    refine ⟨o, h2, hkl, fun hl => ?_, h1, h3⟩
    simp only [L] at hl
    simp only [Array.getD_eq_getD_getElem?, Array.getElem?_eq_getElem (show k < listed.size by omega)] at h1 hl
    simp at h1 hl
    rw [h1] at hl; cases hl
  have bitL : ∀ (listed : Array Bool) k o j, (∀ i j, L listed i → bit i j → L listed j) → ops[k]? = some o → (∀ e ∈ o.after, Region.binds .any e = true → L listed e.on) → bit k j → L listed j := by
    intro listed k o j hb ho he hbit
    obtain ⟨e, h1, h2, h3⟩ := hok.clos k j o ho hbit
    rcases h3 with rfl | h3
    · exact he e h1 h2
    · exact hb _ _ (he e h1 h2) h3
  have main : ∀ fuel (listed : Array Bool) a w, Inv listed a w → cnt ops.size listed ≤ fuel → wpAny P .any ops Q fuel listed a w := by
    -- nothing comes up: all have come up
    have done : ∀ (listed : Array Bool) a w, Inv listed a w → Region.ready .any ops listed = [] → Q .normal a w := by
      intro listed a w hI hr
      obtain ⟨hs, hb, hI⟩ := hI
      have all : ∀ k, k < ops.size → L listed k := by
        intro k
        induction k using Nat.strongRecOn with
        | _ k ih =>
          intro hk
          by_cases hl : L listed k
          · exact hl
          · have hmem : k ∈ Region.ready .any ops listed := by
              refine mem_ready.2 ⟨?_, ops[k], Array.getElem?_eq_getElem hk, fun e he hbind => ih e.on (hok.back k _ (Array.getElem?_eq_getElem hk) e he hbind) (Nat.lt_trans (hok.back k _ (Array.getElem?_eq_getElem hk) e he hbind) hk)⟩
              simp only [L] at hl
              simp only [Array.getD_eq_getD_getElem?, Array.getElem?_eq_getElem (show k < listed.size by omega)] at hl ⊢
              simpa using hl
            rw [hr] at hmem; cases hmem
      rcases hI with ⟨hlt, hsim⟩ | ⟨i, him, hin, hl, hl2, st, val, a', hvf, hst, hstep⟩
      · have hmn : m = ops.size := by
          have := hok.mle
          rcases Nat.lt_or_ge m ops.size with h | h
          · have := hlt m (all m h); omega
          · omega
        obtain ⟨st, val, a', hvf, hst, hstep⟩ := mk2 listed a w hs hlt (fun j hj _ => all j (by omega)) hsim
        rw [List.drop_of_length_le (by omega)] at hstep
        have := hvf.eq fun j d x hj => all j (by have := (flsl j d x hj).1; omega)
        subst this
        exact hq _ _ _ _ hstep hst
      · have : i = ops.size := by
          rcases Nat.lt_or_ge i ops.size with h | h
          · have := hl i (all i h); omega
          · omega
        rw [List.drop_of_length_le (by omega)] at hstep
        have := hvf.eq fun j d x hj => all j (by have := (flsl j d x hj).1; have := hok.mle; omega)
        subst this
        exact hq _ _ _ _ hstep hst
    intro fuel
    induction fuel with
    | zero =>
      intro listed a w hI hcnt
      have hr : Region.ready .any ops listed = [] := by
        apply List.eq_nil_iff_forall_not_mem.2
        intro k hk
        obtain ⟨o, ho, hkl, _, hg, _⟩ := readyL listed k hI.1 hk
        have : 0 < cnt ops.size listed := by
          unfold cnt
          refine List.length_pos_iff.2 (List.ne_nil_of_mem (a := k) ?_)
          rw [List.mem_filter]; exact ⟨List.mem_range.2 hkl, by rw [hg]; rfl⟩
        omega
      exact ⟨hr, done listed a w hI hr⟩
    | succ fuel ih =>
      intro listed a w hI hcnt
      refine ⟨done listed a w hI, fun k hk => ?_⟩
      obtain ⟨hs, hb, hI⟩ := hI
      obtain ⟨o, ho, hkl, hnl, hg, he⟩ := readyL listed k hs hk
      obtain ⟨s, hsk, hco⟩ := hc.get (i := k) (o := o) (by simpa using ho)
      have hcnt' : cnt ops.size (listed.setIfInBounds k true) ≤ fuel := by have := cnt_set hkl hs hg; omega
      have hs' : (listed.setIfInBounds k true).size = ops.size := by simpa using hs
      have hb' : ∀ i j, L (listed.setIfInBounds k true) i → bit i j → L (listed.setIfInBounds k true) j := by
        intro i j hi hbit
        refine (setL listed k j hs hkl).2 (.inl ?_)
        rcases (setL listed k i hs hkl).1 hi with hi | rfl
        · exact hb i j hi hbit
        · exact bitL listed i o j hb ho he hbit
      have wpOp_eq : ∀ (next : Act → World → Prop), wpOp P ops Q k next a w = (if Region.wanted o (yielded ops a.tmps) then o.wp P a w next Q ∨ (o.asks P a w ∧ LetsOut Q) else next (a.put o.dst undef) w) := by
        intro next; simp only [wpOp, ho]
      rw [wpOp_eq]
      -- the tail: text order
      have tailcase : ∀ i, m ≤ i → (∀ j, L listed j → j < i) → i ≤ k → k = i := by
        intro i him hl hik
        rcases Nat.lt_or_ge i k with h | h
        · rcases hok.tail k i (by omega) hkl h with hbt | ⟨d, x, hf, _⟩
          · have := hl i (bitL listed k o i hb ho he hbt); omega
          · have := (flsl i d x hf).1; omega
        · omega
      have phase2 : ∀ i, m ≤ i → i ≤ ops.size → (∀ j, L listed j → j < i) → (∀ j, j < i → fl j = none → L listed j) → (∃ st val a', VF fl (L listed) a a' ∧ Rst D.toDom mb okc w0 nt val st a' w ∧ steps N D R (sl.drop i) st q) → k = i →
          (if Region.wanted o (yielded ops a.tmps) then o.wp P a w (wpAny P .any ops Q fuel (listed.setIfInBounds k true)) Q ∨ (o.asks P a w ∧ LetsOut Q) else wpAny P .any ops Q fuel (listed.setIfInBounds k true) (a.put o.dst undef) w) := by
        rintro i him hin hl hl2 ⟨st, val, a', hvf, hst, hstep⟩ rfl
        have hdrop : sl.drop k = s :: sl.drop (k + 1) := by
          have := List.drop_eq_getElem_cons (l := sl) (i := k) (by omega)
          rw [this]; congr 1
          rw [List.getElem?_eq_getElem (by omega)] at hsk
          injection hsk
        rw [hdrop] at hstep
        have apart : ∀ j d x, fl j = some (d, x) → ¬ L listed j → Apart o s d x := by
          intro j d x hj hn
          rcases hok.tail k j him hkl (by have := (flsl j d x hj).1; omega) with hbt | ⟨d', x', hf, hap⟩
          · exact absurd (bitL listed k o j hb ho he hbt) hn
          · rw [hj] at hf; injection hf with hf; injection hf with e1 e2; subst e1; subst e2
            exact hap o s ho hsk
        obtain ⟨hnsel, _⟩ := cmp_plain hco.cmp
        have hev : execOp a.eval o = execOp a'.eval o := by
          refine execOp_congr o hnsel fun x hx => ?_
          cases x with
          | tmp t =>
            simp only [Act.eval, Array.getD_eq_getD_getElem?]
            rw [hvf.at2 t fun j d x hj hn e => by subst e; exact (apart j d x hj hn).op hx]
          | _ => rfl
        have hw : Region.wanted o (yielded ops a.tmps) = Region.wanted o (yielded ops a'.tmps) := by
          have hg := hco.g
          unfold gOk at hg
          split at hg
          · rename_i h1 _; simp only [Region.wanted, h1]
          · rename_i j1 b1 t b2 h1 h2
            obtain ⟨h3, rfl⟩ := hg
            have h4 : a'.tmps[t]? = a.tmps[t]? := hvf.at2 t fun j d x hj hn e => by subst e; exact (apart j d x hj hn).g b1 h2
            simp only [Region.wanted, h1, yielded, h3, Option.bind_some, h4]
          · exact hg.elim
        have hset : ∀ j d x, fl j = some (d, x) → (L (listed.setIfInBounds k true) j ↔ L listed j) := by
          intro j d x hj
          rw [setL listed k j hs hkl]
          refine ⟨fun h => h.elim id fun e => ?_, .inl⟩
          have := (flsl j d x hj).1; omega
        have hvfp : ∀ y, VF fl (L (listed.setIfInBounds k true)) (a.put o.dst y) (a'.put o.dst y) := fun y => hvf.put hset fun j d x hj hn => by rw [hco.dst]; exact ⟨(apart j d x hj hn).d1, (apart j d x hj hn).d2⟩
        obtain ⟨stk, g1, g2, hgd⟩ := steps_gd hstep
        obtain ⟨st', h1, h2⟩ := one_sound2 hD hR hco (hst.ext g1 g2) (q := fun st' => steps N D R (sl.drop (k + 1)) st' q) hgd
        have h3 := h2 (fun a1 w1 => ∃ val1, Rst D.toDom mb okc w0 nt val1 st' a1 w1) (fun _ _ _ => False) fun val1 a1 w1 h => ⟨val1, h⟩
        have hnext : ∀ y w1, (∃ val1, Rst D.toDom mb okc w0 nt val1 st' (a'.put o.dst y) w1) → wpAny P .any ops Q fuel (listed.setIfInBounds k true) (a.put o.dst y) w1 := by
          rintro y w1 ⟨val1, hst1⟩
          refine ih _ _ _ ⟨hs', hb', .inr ⟨k + 1, by omega, by omega, fun j hj => ?_, fun j hj hf => ?_, st', val1, _, hvfp y, hst1, h1⟩⟩ hcnt'
          · rcases (setL listed k j hs hkl).1 hj with hj | rfl
            · have := hl j hj; omega
            · omega
          · rw [setL listed k j hs hkl]
            rcases Nat.lt_or_ge j k with h | h
            · exact .inl (hl2 j h hf)
            · exact .inr (by omega)
        rw [hw]
        split
        · rename_i hwt
          rw [if_pos hwt] at h3
          exact .inl (wp_virt hev hnext (fun a1 w1 ⟨v1, h4⟩ => by rw [h4.defs, hst.defs]) h3)
        · rename_i hwt
          rw [if_neg hwt] at h3
          exact hnext undef w h3
      -- a move that hung about
      have phase3 : ∀ i d x, m ≤ i → i ≤ ops.size → (∀ j, L listed j → j < i) → (∀ j, j < i → fl j = none → L listed j) → (∃ st val a', VF fl (L listed) a a' ∧ Rst D.toDom mb okc w0 nt val st a' w ∧ steps N D R (sl.drop i) st q) → fl k = some (d, x) →
          (if Region.wanted o (yielded ops a.tmps) then o.wp P a w (wpAny P .any ops Q fuel (listed.setIfInBounds k true)) Q ∨ (o.asks P a w ∧ LetsOut Q) else wpAny P .any ops Q fuel (listed.setIfInBounds k true) (a.put o.dst undef) w) := by
        rintro i d x him hin hl hl2 ⟨st, val, a', hvf, hst, hstep⟩ hf
        obtain ⟨hkm, hsk2, hox⟩ := hok.flok k d x hf
        rw [hsk] at hsk2; injection hsk2 with hsk2; subst hsk2
        rw [wanted_none hco.g rfl, if_pos rfl]
        left
        have hdd : o.dst = some d := hco.dst
        have hrun : (execOp a.eval o).run P w = .ok (.value (a.tmps.getD x undef)) w := by
          have hcm := hco.cmp
          generalize hop : o.op = op at hcm
          cases hcm with
          | mv hx => cases hx; simp [execOp, hop, Act.eval]
          | asg hx => cases hx; simp [execOp, hop, Act.eval]
        refine wp_value hrun (ih _ _ _ ⟨hs', hb', .inr ⟨i, him, hin, fun j hj => ?_, fun j hj hfj => ?_, st, val, a', ⟨?_, ?_, fun j d' x' hj hn => ?_, fun t ht => ?_⟩, hst, hstep⟩⟩ hcnt')
        · rcases (setL listed k j hs hkl).1 hj with hj | rfl
          · exact hl j hj
          · omega
        · exact (setL listed k j hs hkl).2 (.inl (hl2 j hj hfj))
        · rw [put_defers]; exact hvf.df
        · rw [put_size]; exact hvf.sz
        · have hn' : ¬ L listed j := fun h => hn ((setL listed k j hs hkl).2 (.inl h))
          rw [hvf.at1 j d' x' hj hn', hdd]
          congr 1
          have := tmps_put (a := a) (d := d) (y := a.tmps.getD x undef) x'
          rw [if_neg ((hok.flok j d' x' hj).2.2 k d x hf)] at this
          rw [Array.getD_eq_getD_getElem?, Array.getD_eq_getD_getElem?, this]
        · rw [hdd, tmps_put]
          split
          · rename_i e; subst e
            rw [hvf.at1 k d x hf hnl]
            have hds : d < a.tmps.size := by rw [← hvf.sz, hst.size]; exact hco.lt d rfl
            rw [if_pos hds]
          · rename_i hne
            refine hvf.at2 t fun j d' x' hj hn e => ?_
            by_cases hjk : j = k
            · subst hjk
              rw [hf] at hj; injection hj with hj; injection hj with hj _
              exact hne (hj.trans e)
            · exact ht j d' x' hj (fun h => by
                rcases (setL listed k j hs hkl).1 h with h | h
                · exact hn h
                · exact hjk h) e
      rcases hI with ⟨hlt, hsim⟩ | ⟨i, him, hin, hl, hl2, hrest⟩
      · by_cases hkm : k < m
        · -- one of the free ones
          obtain ⟨st, val, hst, hsim⟩ := hsim
          obtain ⟨s', hs'', hds, hfr, _⟩ := t1' k hkm
          rw [hsk] at hs''; injection hs'' with hs''; subst hs''
          have hT := simT k (by omega)
          have same : ∀ t, (O.t t ∈ s.i.opers ∨ ∃ b, s.g = some (t, b)) → lk st.sl t = lk (sts k).sl t := by
            intro t ht
            by_cases hj : ∃ j, j < m ∧ dst j = some t
            · obtain ⟨j, hj, hd⟩ := hj
              have hdj : ∃ sj, sl[j]? = some sj ∧ sj.d = some t := by
                simp only [dst] at hd
                cases hsj : sl[j]? with
                | none => simp [hsj] at hd
                | some sj => simp [hsj] at hd; exact ⟨sj, rfl, hd⟩
              obtain ⟨sj, hsj, hsd⟩ := hdj
              obtain ⟨hjk, e, he1, he2, he3⟩ := hok.reads k j o s sj t hkm hj ho hsk hsj hsd ht
              have hLj : L listed j := by rw [← he3]; exact he e he1 he2
              rw [hsim.s1 j t hj hLj hd, hT.s1 j t hj hjk hd]
            · rw [hsim.s2 t fun j hj' _ hd => hj ⟨j, hj', hd⟩, hT.s2 t fun j hj' _ hd => hj ⟨j, hj', hd⟩]
          have hag : Ag (sts k) st s.i.opers := by
            intro x hx
            have hev : ev st x = ev (sts k) x := by
              cases x with
              | t n => simp only [ev, same n (.inl hx)]
              | k v => rfl
              | f n => rfl
            refine ⟨hev, fun i hi ob hob => ?_⟩
            -- it lives here too
            have hlive : ∃ v, val i = some v := by
              rw [← hev] at hi
              cases x with
              | t n =>
                simp only [ev] at hi
                cases hln : lk st.sl n with
                | none => rw [hln] at hi; cases hi
                | some x =>
                  rw [hln] at hi
                  obtain ⟨y, _, hr⟩ := hst.sl n x hln
                  exact RA.live hr hi
              | k v => cases hi
              | f n => cases hi
            have hne : lk st.hp i ≠ none := fun e => by obtain ⟨v, hv⟩ := hlive; rw [hst.vl i e] at hv; cases hv
            by_cases hj : ∃ j ob', j < m ∧ L listed j ∧ dst j = some i ∧ rv j = .obj ob'
            · obtain ⟨j, ob', hj, hLj, hd, hr⟩ := hj
              rw [hsim.h1 j i ob' hj hLj hd hr]
              by_cases hjk : j < k
              · rw [hT.h1 j i ob' hj hjk hd hr] at hob; exact hob
              · exfalso
                have hn0 := hnew j ob' i hj hr hd
                rw [hT.h2 i fun j2 ob2 hj2 hl2 hd2 hr2 => ?_] at hob
                · rw [hn0] at hob; cases hob
                · have := hdst j2 j i hj2 hj hd2 hd
                  omega
            · have h0 : lk st.hp i = lk st0.hp i := hsim.h2 i fun j ob' hj' hl' hd' hr' => hj ⟨j, ob', hj', hl', hd', hr'⟩
              rw [h0]
              by_cases hj2 : ∃ j ob', j < m ∧ j < k ∧ dst j = some i ∧ rv j = .obj ob'
              · obtain ⟨j, ob', hj', _, hd', hr'⟩ := hj2
                have := hnew j ob' i hj' hr' hd'
                rw [h0, this] at hne; exact absurd rfl hne
              · rw [hT.h2 i fun j ob' hj' hl' hd' hr' => hj2 ⟨j, ob', hj', hl', hd', hr'⟩] at hob; exact hob
          have hfr' : Fr N D R st s (rv k) := by
            refine fr_loc hfr hag (fun t b hgb => same t (.inr ⟨b, hgb⟩)) fun d ob hd hr => ?_
            have hdk : dst k = some d := by rw [hds]; exact hd
            rw [hsim.h2 d fun j ob' hj hl hdj hrj => ?_]
            · exact hnew k ob d hkm hr hdk
            · have := hdst j k d hj hkm hdj hdk
              subst this; exact hnl hl
          refine fr_sound hD hR hco hst hfr' _ Q fun val' a' w' hst' => ih _ _ _ ⟨hs', hb', .inl ⟨fun i hi => ?_, _, val', hst', ?_⟩⟩ hcnt'
          · rcases (setL listed k i hs hkl).1 hi with hi | rfl
            · exact hlt i hi
            · exact hkm
          · rw [← hds]
            exact hsim.step hdst hkm hnl fun j => setL listed k j hs hkl
        · have hall : ∀ j, j < m → fl j = none → L listed j := fun j hj hf => by
            rcases hok.tail k j (by omega) hkl (by omega) with hbt | ⟨d, x, hf', _⟩
            · exact bitL listed k o j hb ho he hbt
            · rw [hf] at hf'; cases hf'
          exact phase2 m (Nat.le_refl _) hok.mle hlt hall (mk2 listed a w hs hlt hall hsim) (tailcase m (Nat.le_refl _) hlt (by omega))
      · rcases Nat.lt_or_ge k i with h | h
        · cases hf : fl k with
          | none => exact absurd (hl2 k h hf) hnl
          | some e => obtain ⟨d, x⟩ := e; exact phase3 i d x him hin hl hl2 hrest hf
        · exact phase2 i him hin hl hl2 hrest (tailcase i him hl h)
  have hL0 : ∀ i, ¬ L (Array.replicate ops.size false) i := by
    intro i hi
    simp only [L, Array.getD_eq_getD_getElem?, Array.getElem?_replicate] at hi
    split at hi <;> simp at hi
  refine main ops.size _ a w ⟨by simp, fun i j hi => absurd hi (hL0 i), .inl ⟨fun i hi => absurd hi (hL0 i), st0, val, hst0, ⟨fun j t _ hl => absurd hl (hL0 j), fun _ _ => rfl, fun j t ob _ hl => absurd hl (hL0 j), fun _ _ => rfl⟩⟩⟩ ?_
  unfold cnt
  exact Nat.le_trans (List.length_filter_le _ _) (by simp)

/-- A region that draws its order. -/
theorem region_any {id : Nat} {sl : List SO} {m : Nat} {bit : Nat → Nat → Prop} {fl : Nat → Option (Nat × Nat)} (hm : P.follows .mixedOrders = true) (hD : DomOk P D) (hR : ∀ f s, lk R f = some s → Meets P D.toDom f s) (hc : CmpOs P nt ops ops.toList sl) (hok : AnyOk ops sl m bit fl)
    (hst : Rst D.toDom mb okc w0 nt val st a w) {q : St K → Prop} (h : anys N D R m sl st q) (hq : ∀ st val a w, q st → Rst D.toDom mb okc w0 nt val st a w → Q .normal a w) : (Code.region id ops true).wp P Q a w := by
  refine wp_region_any hm ?_
  have hst1 : Rst D.toDom mb okc w0 nt val st a { w with drawn := w.drawn + 1 } := hst.world D.toDom ⟨rfl, rfl, rfl, Nat.le_refl _, fun _ _ _ => rfl⟩
  obtain ⟨val', hst2⟩ := freshAll_rst (tk m sl) hst1
  exact any_sound hD hR hc hok hq hst2 h
end
end Go.Sy
