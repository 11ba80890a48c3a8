/- Whole bodies: soundness; a function keeps its contract. -/
import Derived.Test.YtfopdmoomdankaaSyS
set_option linter.unusedVariables false
set_option linter.unusedSimpArgs false
namespace Go.Sy
open Go

def Ex.to : Ex → Exit
  | .nm => .normal
  | .ret => .ret
  | .exit i => .exit i

section
variable {K : Type} {N : Hide} {P : Program} {D : Dx K} {R : List (Nat × Sp K)} {mb : Bw} {okc : Nat → Prop} {w0 w : World} {nt : Nat} {val : Nat → Option Value} {st st' : St K} {a : Act} {Q : Exit → Act → World → Prop}

theorem frzb_rst {x : O} {q : St K → Prop} (hst : Rst D.toDom mb okc w0 nt val st a w) (h : frzb N D st x q) : ∃ st' val', q st' ∧ Rst D.toDom mb okc w0 nt val' st' a w := by
  unfold frzb at h
  split at h
  · rename_i i hi
    split at h
    · rename_i T cs hob
      split at h
      · rename_i k hk hclo
        obtain ⟨h1, h2⟩ := D.ofBox_law T cs k hk
        exact ⟨_, _, h.2, hst.freeze_box D.toDom hob (fun b v hv hb hlt => (own_base hst hob hv hb).resolve_left (by omega)) h1 (thp h.1) h2 fun x hx j => clo_has (allClo_mem hclo x hx) j⟩
      · exact h.elim
    · exact h.elim
  · exact h.elim

theorem Rst.knowO (h : Rst D.toDom mb okc w0 nt val st a w) {c : O} {b : Bool} (hb : ev st c = .b (.c (.v (.bool b)))) : Rst D.toDom mb okc w0 nt val (st.knowO c b) a w := by
  cases c with
  | t n =>
    have hl : lk st.sl n = some (.b (.c (.v (.bool b)))) := by
      simp only [ev] at hb
      split at hb
      · rename_i x hx; rw [hx, hb]
      · cases hb
    exact h.ext (know_lk hl) fun _ => rfl
  | k v => exact h
  | f n => exact h

theorem ghost_run {g : S} (hg : Ghost nt g) : ∀ {q : Ex → St K → Prop} {st : St K} {val : Nat → Option Value}, Rst D.toDom mb okc w0 nt val st a w → run N D R g st q → ∃ st' val', q .nm st' ∧ Rst D.toDom mb okc w0 nt val' st' a w := by
  induction hg with
  | skip => intro q st val hst h; exact ⟨st, val, h, hst⟩
  | frz _ ih =>
    intro q st val hst h
    obtain ⟨val', hst'⟩ := frzO_rst hst _
    exact ih hst' h
  | frzb _ ih =>
    intro q st val hst h
    obtain ⟨st', val', h1, h2⟩ := frzb_rst hst h
    exact ih h2 h1
  | nil ht htd _ ih =>
    intro q st val hst h
    obtain ⟨st', val', h1, h2⟩ := nilRow_sound hst ht htd h
    exact ih h2 h1
  | nilb htd _ ih =>
    intro q st val hst h
    obtain ⟨st', val', h1, h2⟩ := nilB_sound hst htd h
    exact ih h2 h1

/-- A loop, its measure beside the state. -/
theorem wp_loop_ix {c : Code} {ι : Type} (I : ι → Act → World → Prop) (μ : ι → Nat) (i0 : ι) (h0 : I i0 a w)
    (round : ∀ i a w, I i a w → c.wp P (Exit.then (fun a' w' => ∃ j, μ j < μ i ∧ I j a' w') Q) a w) : (Code.loop c).wp P Q a w := by
  intro b k cs
  have key : ∀ n i a w, μ i = n → I i a w → ∃ e a' w', Q e a' w' ∧ Arrives P (lone (b.at a (.code c :: .inLoop c :: k)) cs w) b k cs e a' w' := by
    intro n
    induction n using Nat.strongRecOn with
    | _ n ih =>
      intro i a w hn hI
      obtain ⟨e, a1, w1, hq, harr⟩ := round i a w hI b (.inLoop c :: k) cs
      cases e with
      | normal =>
        obtain ⟨j, hlt, hj⟩ := hq
        obtain ⟨e2, a2, w2, hq2, harr2⟩ := ih (μ j) (hn ▸ hlt) j a1 w1 rfl hj
        exact ⟨e2, a2, w2, hq2, .of_steps (Steps.trans harr (.one step_inLoop)) harr2⟩
      | exit id => exact ⟨_, a1, w1, hq, .pass (x := .inLoop c) rfl (fun _ _ => .inl (by simp)) harr⟩
      | goto l => exact ⟨_, a1, w1, hq, .pass (x := .inLoop c) rfl (fun _ _ => .inl (by simp)) harr⟩
      | ret => exact ⟨_, a1, w1, hq, .pass (x := .inLoop c) rfl (fun _ _ => .inl (by simp)) harr⟩
      | panic ch => exact ⟨_, a1, w1, hq, .pass (x := .inLoop c) rfl (fun _ _ => .inl (by simp)) harr⟩
      | outgrown => exact ⟨_, a1, w1, hq, .pass (x := .inLoop c) rfl (fun _ _ => .inl (by simp)) harr⟩
  obtain ⟨e, a', w', hq, harr⟩ := key _ i0 a w rfl h0
  exact ⟨e, a', w', hq, .of_steps (.one step_loop) harr⟩

theorem run_sound (hm : P.follows .mixedOrders = true) (hD : DomOk P D) (hR : ∀ f s, lk R f = some s → Meets P D.toDom f s) {c : Code} {s : S} (hc : CmpS P nt c s) :
    ∀ {Q : Exit → Act → World → Prop} {q : Ex → St K → Prop} {st : St K} {val : Nat → Option Value} {a : Act} {w : World}, Rst D.toDom mb okc w0 nt val st a w → run N D R s st q →
      (∀ e st val a w, q e st → Rst D.toDom mb okc w0 nt val st a w → Q e.to a w) → c.wp P Q a w := by
  induction hc with
  | ops hc => intro Q q st val a w hst h hq; exact region_sound hD hR hc hst h fun st val a w h1 h2 => hq .nm st val a w h1 h2
  | any hc hok => intro Q q st val a w hst h hq; exact region_any hm hD hR hc hok hst h fun st val a w h1 h2 => hq .nm st val a w h1 h2
  | seq _ _ iha ihb =>
    intro Q q st val a w hst h hq
    refine wp_seq (iha hst h fun e st val a w h1 h2 => ?_)
    cases e with
    | nm => exact ihb h2 h1 hq
    | ret => exact hq .ret st val a w h1 h2
    | exit i => exact hq (.exit i) st val a w h1 h2
  | cond hcc _ _ iht ihe =>
    intro Q q st val a w hst h hq
    simp only [run] at h
    split at h
    · rename_i b hb
      have hb' := (ev_v hst hcc hb).1
      cases b
      · exact wp_cond_false hb' (ihe (hst.knowO hb) h hq)
      · exact wp_cond_true hb' (iht (hst.knowO hb) h hq)
    · exact h.elim
  | @block id _ _ _ ih =>
    intro Q q st val a w hst h hq
    refine wp_block (ih hst h fun e st val a w h1 h2 => ?_)
    cases e with
    | nm => exact hq .nm st val a w h1 h2
    | ret => exact hq .ret st val a w h1 h2
    | exit i =>
      simp only [Ex.to, Exit.inBlock]
      simp only at h1
      cases hi : eqn i id with
      | true =>
        rw [hi] at h1
        rw [if_pos (eqn_true hi)]
        exact hq .nm st val a w h1 h2
      | false =>
        rw [hi] at h1
        rw [if_neg (fun e => by subst e; simp at hi)]
        exact hq (.exit i) st val a w h1 h2
  | loop _ ih =>
    intro Q q st val a w hst h hq
    obtain ⟨ι, J, inv, μ, i0, hJ, hle, hround⟩ := h
    obtain ⟨val0, hst0⟩ := hst.le hle
    refine wp_loop_ix (fun i a w => J i ∧ ∃ val, Rst D.toDom mb okc w0 nt val (inv i) a w) μ i0 ⟨hJ, val0, hst0⟩ fun i a w ⟨hJi, val, hst⟩ => ih hst (hround i hJi) fun e st val a w h1 h2 => ?_
    cases e with
    | nm =>
      obtain ⟨j, hJj, hj, hle⟩ := h1
      exact ⟨j, hj, hJj, h2.le hle⟩
    | ret => exact hq .ret st val a w h1 h2
    | exit n => exact hq (.exit n) st val a w h1 h2
  | exit => intro Q q st val a w hst h hq; exact wp_exit (hq (.exit _) st val a w h hst)
  | ret => intro Q q st val a w hst h hq; exact wp_ret (hq .ret st val a w h hst)
  | skip => intro Q q st val a w hst h hq; exact wp_skip (hq .nm st val a w h hst)
  | @frz _ x _ _ ih =>
    intro Q q st val a w hst h hq
    obtain ⟨val', hst'⟩ := frzO_rst hst x
    exact ih hst' h hq
  | frzb _ ih =>
    intro Q q st val a w hst h hq
    obtain ⟨st', val', h1, h2⟩ := frzb_rst hst h
    exact ih h2 h1 hq
  | nil ht htd _ ih =>
    intro Q q st val a w hst h hq
    obtain ⟨st', val', h1, h2⟩ := nilRow_sound hst ht htd h
    exact ih h2 h1 hq
  | nilb htd _ ih =>
    intro Q q st val a w hst h hq
    obtain ⟨st', val', h1, h2⟩ := nilB_sound hst htd h
    exact ih h2 h1 hq
  | post _ hg iha =>
    intro Q q st val a w hst h hq
    refine iha hst h fun e st val a w h1 h2 => ?_
    cases e with
    | nm =>
      obtain ⟨st', val', h3, h4⟩ := ghost_run hg h2 h1
      exact hq .nm st' val' a w h3 h4
    | ret => exact hq .ret st val a w h1 h2
    | exit i => exact hq (.exit i) st val a w h1 h2
end

/-! ### Functions -/
inductive RV | t (n : Nat) | c (n : Nat) (g : Bool) (sz : Nat)
inductive CmpR (P : Program) : ResultVar → RV → Prop
  | t {n} : CmpR P (.tmp n) (.t n)
  | c {n T g sz} : aggT P T = some g → szT P T = some sz → CmpR P (.cell n T) (.c n g sz)
inductive CmpRs (P : Program) : List ResultVar → List RV → Prop
  | nil : CmpRs P [] []
  | cons {x y xs ys} : CmpR P x y → CmpRs P xs ys → CmpRs P (x :: xs) (y :: ys)

section
variable {K : Type} (N : Hide) (D : Dx K) (R : List (Nat × Sp K))
def rvB (st : St K) : RV → Option (B K)
  | .t n => match lk st.sl n with | some (.b b) => some b | _ => none
  | .c n g sz => match lk st.sl n with
    | some (.b (.c (.p i o))) => (match lk st.hp i with
      | some (.box _ cs) => (match lenB (tk sz (dr o cs)) sz with
        | true => (match g with
          | true => some (.g (tk sz (dr o cs)))
          | false => (match tk sz (dr o cs) with | [y] => some (.c y) | _ => none))
        | false => none)
      | _ => none)
    | _ => none
def rvs (st : St K) : List RV → Option (List (B K))
  | [] => some []
  | x :: r => match rvB st x, rvs st r with | some b, some l => some (b :: l) | _, _ => none
def frzBs : List (B K) → St K → St K
  | [], st => st
  | b :: r, st => frzBs r (frzCs b.cells st)
def cloBs : List (B K) → Bool
  | [] => true
  | b :: r => match b.clo with | true => cloBs r | false => false
def resA : List (B K) → A K
  | [b] => .b b
  | l => .u l
/-- What a function gives at its end. -/
def fin (st : St K) (l : List RV) (r : A K) : Prop :=
  match rvs st l with
  | some bs => (match rvs (frzBs bs st) l with
    | some bs' => (match cloBs bs' with | true => leA N D (resA bs') r | false => False)
    | none => False)
  | none => False
def initSl : Nat → List (B K) → List (Nat × A K)
  | _, [] => []
  | i, b :: r => (i, .b b) :: initSl (i + 1) r
def init (l : List (B K)) : St K := { sl := initSl 0 l, hp := [] }
end

section
variable {K : Type} {N : Hide} {P : Program} {D : Dx K} {R : List (Nat × Sp K)} {mb : Bw} {okc : Nat → Prop} {w0 w : World} {nt : Nat} {val : Nat → Option Value} {st st' : St K} {a : Act} {Q : Exit → Act → World → Prop}

theorem frzBs_rst : ∀ (bs : List (B K)) {st : St K} {val : Nat → Option Value}, Rst D.toDom mb okc w0 nt val st a w → ∃ val', Rst D.toDom mb okc w0 nt val' (frzBs bs st) a w
  | [], st, val, h => ⟨val, h⟩
  | b :: r, st, val, h => by
    obtain ⟨val', h'⟩ := frzCs_rst b.cells h
    exact frzBs_rst r h'

def rvOne (tm : Array Value) (r : ResultVar) : Sem Value :=
  match r with
  | .tmp t => pure (tm.getD t undef)
  | .cell ad t => do loadVar t (← asAddr (tm.getD ad undef))
theorem results_eq (fn : Func) (tm : Array Value) : results fn tm = (do let vs ← fn.results.mapM (rvOne tm); pure (if h : vs.size = 1 then vs[0] else .tuple vs)) := by
  unfold results
  congr 1
theorem asAddr_some {ad : Addr} : (asAddr (.pointer (some ad))).run P w = .ok ad w := rfl

theorem rvB_run {x : ResultVar} {y : RV} {b : B K} (hc : CmpR P x y) (hst : Rst D.toDom mb okc w0 nt val st a w) (h : rvB st y = some b) :
    ∃ v, (rvOne a.tmps x).run P w = .ok v w ∧ RB D.toDom val (okS w0.heap.size okc st.hp val) w b v := by
  cases hc with
  | @t n =>
    simp only [rvB] at h
    split at h
    · rename_i b' hl
      injection h with h; subst h
      obtain ⟨y, h1, h2⟩ := hst.sl n _ hl
      exact ⟨y, by simp [rvOne, Array.getD_eq_getD_getElem?, h1], h2⟩
    · cases h
  | @c n T g sz hg hs =>
    simp only [rvB] at h
    split at h
    · rename_i i o hl
      obtain ⟨y, h1, h2⟩ := hst.sl n _ hl
      obtain ⟨blk, hv, hye⟩ := rc_p h2
      split at h
      · rename_i t cs hob
        obtain ⟨v, hv', b', us, rfl, hgp, hrs⟩ := hst.hpval hob
        rw [hv] at hv'; injection hv' with hv'; injection hv' with hv'; injection hv' with hv'; injection hv' with hv'
        subst hv'
        have hrs2 := (hrs.drop D.toDom o).take D.toDom sz
        rw [← tk_eq, ← dr_eq] at hrs2
        have hget : a.tmps.getD n undef = .pointer (some ⟨blk, o, none⟩) := by simp [Array.getD_eq_getD_getElem?, h1, hye]
        have hcell : ∀ j u, ((us.toList.drop o).take sz)[j]? = some u → w.cell? ⟨blk, o + j, none⟩ = some u := by
          intro j u hu
          rw [List.getElem?_take] at hu
          split at hu
          · rw [List.getElem?_drop] at hu
            rw [cell_of_row w blk (o + j) us t (0, 0) hgp]
            simpa using hu
          · cases hu
        have hrun : ∀ hl : ((us.toList.drop o).take sz).length = sz, (do loadVar T (← asAddr (a.tmps.getD n undef)) : Sem Value).run P w = _ := fun hl => by
          have := run_ld (P := P) (w := w) hg hs hl hcell
          simp only [Instr.loadAt, Instr.sureAddr, Sem.run_bind, Sem.run_pure, Result.andThen_ok] at this
          simp only [Sem.run_bind, hget, asAddr_some, Result.andThen_ok]
          exact this
        have hlen : lenB (tk sz (dr o cs)) sz = true → ((us.toList.drop o).take sz).length = sz := fun hl => by rw [← hrs2.1]; exact lenB_eq hl
        split at h
        · rename_i hl
          have hrun := hrun (hlen hl)
          cases g with
          | true =>
            simp only [Option.some.injEq] at h; subst h
            exact ⟨_, hrun, _, rfl, hrs2⟩
          | false =>
            simp only at h
            split at h
            · rename_i y0 heq
              injection h with h; subst h
              rw [heq] at hrs2
              obtain ⟨u, hu, hr⟩ := hrs2.2 0 y0 rfl
              cases hus : (us.toList.drop o).take sz with
              | nil => rw [hus] at hu; simp at hu
              | cons u' r =>
                rw [hus] at hu; simp at hu; subst hu
                rw [hus] at hrun
                exact ⟨_, hrun, hr⟩
            · cases h
        · cases h
      · cases h
    · cases h

theorem rvs_run : ∀ {xs : List ResultVar} {ys : List RV} {bs : List (B K)}, CmpRs P xs ys → Rst D.toDom mb okc w0 nt val st a w → rvs st ys = some bs →
    ∃ us : List Value, (xs.mapM (rvOne a.tmps)).run P w = .ok us w ∧ bs.length = us.length ∧ ∀ (j : Nat) (x : B K), bs[j]? = some x → ∃ y, us[j]? = some y ∧ RB D.toDom val (okS w0.heap.size okc st.hp val) w x y
  | _, _, bs, .nil, hst, h => by simp only [rvs, Option.some.injEq] at h; subst h; exact ⟨[], by simp, rfl, fun j x hx => by simp at hx⟩
  | _, _, bs, .cons hc hcs, hst, h => by
    simp only [rvs] at h
    split at h
    · rename_i b l hb hl
      injection h with h; subst h
      obtain ⟨v, h1, h2⟩ := rvB_run hc hst hb
      obtain ⟨us, h3, h4, h5⟩ := rvs_run hcs hst hl
      refine ⟨v :: us, by simp only [List.mapM_cons, Sem.run_bind, h1, h3, Result.andThen_ok, Sem.run_pure], by simp [h4], fun j x hx => ?_⟩
      cases j with
      | zero => simp at hx; subst hx; exact ⟨v, rfl, h2⟩
      | succ j => simpa using h5 j x (by simpa using hx)
    · cases h

theorem initSl_lk : ∀ (l : List (B K)) (i t : Nat) (x : A K), lk (initSl i l) t = some x → ∃ j b, t = i + j ∧ l[j]? = some b ∧ x = .b b
  | [], i, t, x, h => by simp [initSl, lk] at h
  | b :: r, i, t, x, h => by
    simp only [initSl] at h
    by_cases ht : t = i
    · subst ht
      rw [lk_cons_same] at h; injection h with h
      exact ⟨0, b, rfl, rfl, h.symm⟩
    · rw [lk_cons_other ht] at h
      obtain ⟨j, b', h1, h2, h3⟩ := initSl_lk r (i + 1) t x h
      exact ⟨j + 1, b', by omega, by simpa using h2, h3⟩

theorem fin_rst {r : A K} {l : List RV} {fn : Func} (hc : CmpRs P fn.results.toList l) (hst : Rst D.toDom mb okc w0 nt val st a w) (h : fin N D st l r) :
    ∃ v, (results fn a.tmps).run P w = .ok v w ∧ RA D.toDom (fun _ => none) (fun b => b < w0.heap.size → okc b) w r v := by
  unfold fin at h
  split at h
  · rename_i bs hbs
    obtain ⟨val', hst'⟩ := frzBs_rst bs hst
    split at h
    · rename_i bs' hbs'
      split at h
      · rename_i hclo
        obtain ⟨us, h1, h2, h3⟩ := rvs_run hc hst' hbs'
        have hcl : ∀ b ∈ bs', b.clo = true := by
          have : ∀ l : List (B K), cloBs l = true → ∀ b ∈ l, b.clo = true := by
            intro l
            induction l with
            | nil => intro _ b hb; cases hb
            | cons b l ih =>
              intro h b' hb'
              simp only [cloBs] at h
              split at h
              · rcases List.mem_cons.1 hb' with rfl | hb'
                · assumption
                · exact ih h b' hb'
              · cases h
          exact this bs' hclo
        have h4 : ∀ (j : Nat) (x : B K), bs'[j]? = some x → ∃ y, us[j]? = some y ∧ RB D.toDom (fun _ => none) (fun b => b < w0.heap.size → okc b) w x y := by
          intro j x hx
          obtain ⟨y, h5, h6⟩ := h3 j x hx
          refine ⟨y, h5, ?_⟩
          have h7 := RB.clo h6 (hcl x (List.mem_of_getElem? hx)) (fun _ => none)
          exact h7.mv D.toDom ⟨fun b _ hb => ⟨hb.1, rfl⟩, Nat.le_refl _⟩ fun _ _ => rfl
        have hrun : (results fn a.tmps).run P w = .ok (if h : us.toArray.size = 1 then us.toArray[0] else .tuple us.toArray) w := by
          rw [results_eq]
          simp only [Sem.run_bind, Array.mapM_eq_mapM_toList, Sem.run_map, h1, Result.andThen_ok]
          rfl
        refine ⟨_, hrun, leA_rel h ?_⟩
        unfold resA
        split
        · rename_i b
          obtain ⟨y, h5, h6⟩ := h4 0 b rfl
          cases us with
          | nil => simp at h5
          | cons u us =>
            simp at h5; subst h5
            have : us = [] := List.eq_nil_of_length_eq_zero (by simpa using h2.symm)
            subst this
            exact h6
        · rename_i hne
          rw [dif_neg]
          · exact ⟨us, rfl, h2, h4⟩
          · intro hu
            have : bs'.length = 1 := by rw [h2]; simpa using hu
            match bs', this, hne with
            | [b], _, hne => exact hne b rfl
      · exact h.elim
    · exact h.elim
  · exact h.elim

/-! ### Objects under other names, and the end of a call that was lent some -/
def St.ren (st : St K) (i j : Nat) (ob : Ob K) : St K :=
  { sl := mapS (A.map (reid fun n => match eqn n i with | true => some j | false => some n)) st.sl,
    hp := (j, ob.map (reid fun n => match eqn n i with | true => some j | false => some n)) :: mapS (Ob.map (reid fun n => match eqn n i with | true => some j | false => some n)) (rem i st.hp) }
def rens : List (Nat × Nat) → St K → St K
  | [], st => st
  | (i, j) :: r, st => match lk st.hp i, lk st.hp j with
    | some ob, none => rens r (st.ren i j ob)
    | _, _ => rens r st
def renOk (still : Bool) (hp0 : List (Nat × Ob K)) : List (Nat × Nat) → Bool
  | [] => true
  | (_, j) :: r => match lk hp0 j with
    | some (.box _ _) => false
    | some (.arr _ _) => false
    | some (.row _ _) => (match still with | true => false | false => renOk still hp0 r)
    | none => renOk still hp0 r

theorem Rst.ren (h : Rst D.toDom mb okc w0 nt val st a w) {i j : Nat} {ob : Ob K} (hi : lk st.hp i = some ob) (hj : lk st.hp j = none) (hp : mb.pin j = none) : ∃ val', Rst D.toDom mb okc w0 nt val' (st.ren i j ob) a w := by
  obtain ⟨v, hv, hrel, hblk⟩ := h.hp i ob hi
  have hij : j ≠ i := fun e => by subst e; rw [hi] at hj; cases hj
  let φ : Nat → Option Nat := fun n => match eqn n i with | true => some j | false => some n
  have hφi : φ i = some j := by simp [φ]
  have hφo : ∀ n, n ≠ i → φ n = some n := fun n hn => by
    have : eqn n i = false := by
      cases h' : eqn n i
      · rfl
      · exact absurd (eqn_true h') hn
    simp only [φ, this]
  let val' := upd (upd val i none) j (some v)
  let hp' : List (Nat × Ob K) := (j, ob.map (reid φ)) :: mapS (Ob.map (reid φ)) (rem i st.hp)
  have vother : ∀ n, n ≠ j → n ≠ i → val' n = val n := fun n h1 h2 => by simp only [val']; rw [upd_other h1, upd_other h2]
  have look : ∀ {n : Nat} {o1 : Ob K}, lk hp' n = some o1 → (n = j ∧ o1 = ob.map (reid φ) ∧ val' n = some v) ∨ (n ≠ j ∧ n ≠ i ∧ val' n = val n ∧ ∃ o0, lk st.hp n = some o0 ∧ o1 = o0.map (reid φ)) := by
    intro n o1 hn
    by_cases hnj : n = j
    · subst hnj; simp only [hp'] at hn; rw [lk_cons_same] at hn; injection hn with hn; exact .inl ⟨rfl, hn.symm, upd_same _ _⟩
    · simp only [hp'] at hn; rw [lk_cons_other hnj] at hn
      obtain ⟨h1, h2⟩ := lk_sub_hp (st := st) hn
      exact .inr ⟨hnj, h1, vother n hnj h1, h2⟩
  have hval : ∀ n m u, φ n = some m → val n = some u → val' m = some u := by
    intro n m u hn hu
    by_cases hni : n = i
    · subst hni
      rw [hφi] at hn; injection hn with hn; subst hn
      rw [hv] at hu; injection hu with hu; subst hu
      exact upd_same _ _
    · rw [hφo n hni] at hn; injection hn with hn; subst hn
      have hnj : n ≠ j := fun e => by subst e; rw [h.vl n hj] at hu; cases hu
      rw [vother n hnj hni]; exact hu
  have hm : Mv (okS w0.heap.size okc st.hp val) (okS w0.heap.size okc hp' val') w w := by
    refine ⟨fun b hlt hb => ⟨⟨hb.1, fun n o1 u hn hu hbb => ?_⟩, rfl⟩, Nat.le_refl _⟩
    rcases look hn with ⟨rfl, _, h1⟩ | ⟨_, _, h1, o0, h2, _⟩
    · rw [h1] at hu; injection hu with hu; subst hu; exact hb.2 i ob v hi hv hbb
    · rw [h1] at hu; exact hb.2 n o0 u h2 hu hbb
  have hσ : ∀ x y, Rc D.toDom val (okS w0.heap.size okc st.hp val) w x y → Rc D.toDom val' (okS w0.heap.size okc hp' val') w (reid φ x) y := fun x y hxy => reid_rel hm hval hxy
  refine ⟨val', h.keep, h.defs, h.size, fun t x hx => ?_, fun n o1 hn => ?_, fun n hn => ?_, fun n m o1 o2 v1 v2 b hn hm' hv1 hv2 hb1 hb2 => ?_, h.bok, fun n o1 u hp1 hn => ?_, h.pinlt, h.ntle⟩
  · simp only [St.ren] at hx
    rw [lk_mapS] at hx
    obtain ⟨x0, h1, rfl⟩ := Option.map_eq_some_iff.1 hx
    obtain ⟨y, h2, h3⟩ := h.sl t x0 h1
    exact ⟨y, h2, h3.map D.toDom hσ⟩
  · rcases look hn with ⟨rfl, rfl, h1⟩ | ⟨_, _, h1, o0, h2, rfl⟩
    · exact ⟨v, h1, hrel.map D.toDom hm hσ (fun _ _ => rfl), hblk⟩
    · obtain ⟨u, h4, h5, h6⟩ := h.hp n o0 h2
      exact ⟨u, by rw [h1]; exact h4, h5.map D.toDom hm hσ (fun _ _ => rfl), h6⟩
  · have hnj : n ≠ j := fun e => by subst e; simp only [St.ren] at hn; rw [lk_cons_same] at hn; cases hn
    by_cases hni : n = i
    · subst hni; simp only [val']; rw [upd_other hnj, upd_same]
    · rw [vother n hnj hni]
      refine h.vl n ?_
      simp only [St.ren] at hn
      rw [lk_cons_other hnj, lk_mapS, lk_rem_other hni] at hn
      simpa using hn
  · rcases look hn with ⟨rfl, _, h1⟩ | ⟨a1, a2, h1, o0, h2, _⟩ <;> rcases look hm' with ⟨rfl, _, h1'⟩ | ⟨b1, b2, h1', o0', h2', _⟩
    · rfl
    · rw [h1] at hv1; injection hv1 with hv1; subst hv1
      rw [h1'] at hv2
      exact absurd (h.dj m i o0' ob v2 v b h2' hi hv2 hv hb2 hb1) b2
    · rw [h1'] at hv2; injection hv2 with hv2; subst hv2
      rw [h1] at hv1
      exact absurd (h.dj n i o0 ob v1 v b h2 hi hv1 hv hb1 hb2) a2
    · rw [h1] at hv1; rw [h1'] at hv2
      exact h.dj n m o0 o0' v1 v2 b h2 h2' hv1 hv2 hb1 hb2
  · rcases look hn with ⟨rfl, rfl, h1⟩ | ⟨a1, a2, h1, o0, h2, rfl⟩
    · rw [hp] at hp1; cases hp1
    · rw [h1]; exact h.pin n o0 u hp1 h2

theorem rens_rst {still : Bool} {hp0 : List (Nat × Ob K)} {val0 : Nat → Option Value} (hmb : mb.pin = (lend still hp0 val0).pin) : ∀ (l : List (Nat × Nat)) {st : St K} {val : Nat → Option Value}, renOk still hp0 l = true → Rst D.toDom mb okc w0 nt val st a w → ∃ val', Rst D.toDom mb okc w0 nt val' (rens l st) a w
  | [], st, val, _, h => ⟨val, h⟩
  | (i, j) :: r, st, val, hk, h => by
    simp only [renOk] at hk
    have hpin : mb.pin j = none ∧ renOk still hp0 r = true := by
      rw [hmb]
      simp only [lend]
      cases hl : lk hp0 j with
      | none => rw [hl] at hk; exact ⟨rfl, hk⟩
      | some ob =>
        rw [hl] at hk
        cases ob with
        | box t cs => cases hk
        | arr t k => cases hk
        | row e k =>
          cases still with
          | true => cases hk
          | false => exact ⟨rfl, hk⟩
    simp only [rens]
    split
    · rename_i ob h1 h2
      obtain ⟨val', h'⟩ := h.ren h1 h2 hpin.1
      exact rens_rst hmb r hpin.2 h'
    · exact rens_rst hmb r hpin.2 h

/-- What a function that was lent objects gives at its end. -/
def finM (N : Hide) (D : Dx K) (ren : List (Nat × Nat)) (st : St K) (l : List RV) (r : A K) (hp' : List (Nat × Ob K)) : Prop :=
  match rvs (rens ren st) l with
  | some bs => Le N D { sl := [(0, resA bs)], hp := (rens ren st).hp } { sl := [(0, r)], hp := hp' }
  | none => False

theorem finM_hold {still : Bool} {r : A K} {l : List RV} {fn : Func} {hp0 hp' : List (Nat × Ob K)} {val0 : Nat → Option Value} {ren : List (Nat × Nat)} (hmb : mb.pin = (lend still hp0 val0).pin) (hk : renOk still hp0 ren = true) (hc : CmpRs P fn.results.toList l) (hst : Rst D.toDom mb okc w0 nt val st a w)
    (h : finM N D ren st l r hp') : ∃ v val', (results fn a.tmps).run P w = .ok v w ∧ Hold D.toDom mb okc w0 val' hp' w ∧ RA D.toDom val' (okS w0.heap.size okc hp' val') w r v := by
  unfold finM at h
  obtain ⟨val1, h1⟩ := rens_rst hmb ren hk hst
  generalize rens ren st = st1 at h h1
  split at h
  case h_2 => exact h.elim
  rename_i bs hbs
  obtain ⟨us, h2, h3, h4⟩ := rvs_run hc h1 hbs
  have hrun : (results fn a.tmps).run P w = .ok (if h : us.toArray.size = 1 then us.toArray[0] else .tuple us.toArray) w := by
    rw [results_eq]
    simp only [Sem.run_bind, Array.mapM_eq_mapM_toList, Sem.run_map, h2, Result.andThen_ok]
    rfl
  have hra : RA D.toDom val1 (okS w0.heap.size okc st1.hp val1) w (resA bs) (if h : us.toArray.size = 1 then us.toArray[0] else .tuple us.toArray) := by
    unfold resA
    split
    · rename_i b
      obtain ⟨y, h5, h6⟩ := h4 0 b rfl
      cases us with
      | nil => simp at h5
      | cons u us =>
        simp at h5; subst h5
        have : us = [] := List.eq_nil_of_length_eq_zero (by simpa using h3.symm)
        subst this
        exact h6
    · rename_i hne
      rw [dif_neg]
      · exact ⟨us, rfl, h3, h4⟩
      · intro hu
        have : bs.length = 1 := by rw [h3]; simpa using hu
        match bs, this, hne with
        | [b], _, hne => exact hne b rfl
  generalize (if h : us.toArray.size = 1 then us.toArray[0] else .tuple us.toArray) = v at hrun hra
  have h5 : Rst D.toDom mb okc w0 1 val1 { sl := [(0, resA bs)], hp := st1.hp } { tmps := #[v], defers := [] } w := by
    refine ⟨h1.keep, rfl, rfl, fun t x hx => ?_, h1.hp, h1.vl, h1.dj, h1.bok, h1.pin, h1.pinlt, by omega⟩
    simp only [lk] at hx
    split at hx
    · rename_i ht
      have := eqn_true ht; subst this
      injection hx with hx; subst hx
      exact ⟨v, rfl, hra⟩
    · cases hx
  obtain ⟨val2, h6⟩ := h5.le h
  obtain ⟨y, h7, h8⟩ := h6.sl 0 r rfl
  have : y = v := by simpa using h7.symm
  subst this
  exact ⟨y, val2, hrun, ⟨h6.keep, rfl, rfl, fun t x hx => by simp [lk] at hx, h6.hp, h6.vl, h6.dj, h6.bok, h6.pin, h6.pinlt, Nat.zero_le _⟩, h8⟩

/-- Nothing is lent. -/
def nob : Bw := { b := fun _ => False, pin := fun _ => none }

/-- A function keeps its contract. -/
theorem fn_meets {f : FuncId} {fn : Func} {c : Code} {s : S} {l : List RV} {Sf : Sp K} (N : Hide) (R : List (Nat × Sp K)) (hm : P.follows .mixedOrders = true) (hD : DomOk P D) (hR : ∀ f s, lk R f = some s → Meets P D.toDom f s)
    (hf : P.funcs[f]? = some fn) (hb : fn.body = some c) (hen : enters P f = true) (hc : CmpS P fn.ntmps c s) (hr : CmpRs P fn.results.toList l) (har : Sf.ar ≤ fn.ntmps) (hnt : fn.ntmps ≤ 1000000)
    (hnk : ∀ k, some k ∈ Sf.nk → D.ptr k = false ∧ D.len k = 0 ∧ D.wf k) (hM : MeetsM P D.toDom f Sf)
    (h : ∀ args pre r, args.length = Sf.ar → Sf.f args = some (pre, r) → pre → run N D R s (init args) fun e st => match e with | .exit _ => False | .nm => fin N D st l r | .ret => fin N D st l r) : Meets P D.toDom f Sf := by
  refine ⟨hen, hnk, fun args pre r hlen hs hp ok w vals hrel => ?_, hM⟩
  have hvl : vals.length = args.length := hrel.1.symm
  have hst : Rst D.toDom nob ok w fn.ntmps (fun _ => none) (init args) { tmps := vals.toArray ++ Array.replicate (fn.ntmps - vals.toArray.size) undef, defers := [] } w := by
    refine ⟨Keep.refl _ _, rfl, by simp; omega, fun t x hx => ?_, fun i ob hi => by simp [init, lk] at hi, fun _ _ => rfl, fun i j ob ob' v v' b hi => by simp [init, lk] at hi, fun b hb => hb.elim, fun i ob v hp => by simp [nob] at hp, fun i v hp => by simp [nob] at hp, hnt⟩
    obtain ⟨j, b, ht, hb, rfl⟩ := initSl_lk args 0 t x hx
    obtain ⟨y, hy, hr⟩ := hrel.2 j b hb
    have htj : t = j := by omega
    subst htj
    have hjl : t < vals.length := (List.getElem?_eq_some_iff.1 hy).1
    refine ⟨y, by rw [Array.getElem?_append_left (by simpa using hjl)]; simpa using hy, ?_⟩
    refine RB.mv D.toDom hr ⟨fun b hlt hb => ⟨⟨fun _ => hb, fun i ob v hi => by simp [init, lk] at hi⟩, rfl⟩, Nat.le_refl _⟩ fun _ _ => rfl
  refine calls_of_wp hf hb ?_
  refine run_sound (mb := nob) hm hD hR hc hst (h args pre r hlen hs hp) fun e st val a w' h1 h2 => ?_
  have fin_ok : ∀ {st : St K} {val : Nat → Option Value} {a : Act} {w' : World}, Rst D.toDom nob ok w fn.ntmps val st a w' → fin N D st l r → a.defers = [] ∧ ∃ v, (results fn a.tmps).run P w' = .ok v w' ∧
      ∃ v', Ending.returned v = Ending.returned v' ∧ Keep (fun _ => False) w w' ∧ RA D.toDom (fun _ => none) (fun b => b < w.heap.size → ok b) w' r v' := by
    intro st val a w' h2 h1
    obtain ⟨v, h3, h4⟩ := fin_rst hr h2 h1
    exact ⟨h2.defs, v, h3, v, rfl, h2.keep, h4⟩
  cases e with
  | nm => exact fin_ok h2 h1
  | ret => exact fin_ok h2 h1
  | exit i => exact h1.elim

/-- So does one that is lent objects. -/
theorem fn_meetsM {f : FuncId} {fn : Func} {c : Code} {s : S} {l : List RV} {Sf : Sp K} (N : Hide) (R : List (Nat × Sp K)) (ren : List (Nat × Nat)) (hm : P.follows .mixedOrders = true) (hD : DomOk P D) (hR : ∀ f s, lk R f = some s → Meets P D.toDom f s)
    (hf : P.funcs[f]? = some fn) (hb : fn.body = some c) (hc : CmpS P fn.ntmps c s) (hr : CmpRs P fn.results.toList l) (har : Sf.ar ≤ fn.ntmps) (hnt : fn.ntmps ≤ 1000000)
    (h : ∀ args hp pre r hp', args.length = Sf.ar → Sf.g args hp = some (pre, r, hp') → pre → renOk Sf.still hp ren = true ∧ run N D R s { sl := initSl 0 args, hp := hp } fun e st => match e with | .exit _ => False | .nm => finM N D ren st l r hp' | .ret => finM N D ren st l r hp') : MeetsM P D.toDom f Sf := by
  intro args hp pre r hp' hlen hs hpre okc w val vals hold hrel
  obtain ⟨hren, hrun⟩ := h args hp pre r hp' hlen hs hpre
  have hvl : vals.length = args.length := hrel.1.symm
  have hst : Rst D.toDom (lend Sf.still hp val) okc w fn.ntmps val { sl := initSl 0 args, hp := hp } { tmps := vals.toArray ++ Array.replicate (fn.ntmps - vals.toArray.size) undef, defers := [] } w := by
    refine ⟨hold.keep, rfl, by simp; omega, fun t x hx => ?_, hold.hp, hold.vl, hold.dj, hold.bok, hold.pin, hold.pinlt, hnt⟩
    obtain ⟨j, b, ht, hb, rfl⟩ := initSl_lk args 0 t x hx
    obtain ⟨y, hy, hr⟩ := hrel.2 j b hb
    have htj : t = j := by omega
    subst htj
    have hjl : t < vals.length := (List.getElem?_eq_some_iff.1 hy).1
    exact ⟨y, by rw [Array.getElem?_append_left (by simpa using hjl)]; simpa using hy, hr⟩
  refine calls_of_wp hf hb ?_
  refine run_sound hm hD hR hc hst hrun fun e st val1 a w' h1 h2 => ?_
  have fin_ok : ∀ {st : St K} {val1 : Nat → Option Value} {a : Act} {w' : World}, Rst D.toDom (lend Sf.still hp val) okc w fn.ntmps val1 st a w' → finM N D ren st l r hp' → a.defers = [] ∧ ∃ v, (results fn a.tmps).run P w' = .ok v w' ∧
      ∃ v' val', Ending.returned v = Ending.returned v' ∧ Hold D.toDom (lend Sf.still hp val) okc w val' hp' w' ∧ RA D.toDom val' (okS w.heap.size okc hp' val') w' r v' := by
    intro st val1 a w' h2 h1
    obtain ⟨v, val', h3, h4, h5⟩ := finM_hold (val0 := val) rfl hren hr h2 h1
    exact ⟨h2.defs, v, h3, v, val', rfl, h4, h5⟩
  cases e with
  | nm => exact fin_ok h2 h1
  | ret => exact fin_ok h2 h1
  | exit i => exact h1.elim
end
end Go.Sy
