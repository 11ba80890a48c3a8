/- Calls that are lent objects. -/
import Derived.Test.YtfopdmoomdankaaSyL
set_option linter.unusedVariables false
set_option linter.unusedSimpArgs false
namespace Go.Sy
open Go

section
variable {K : Type}

def memB (x : Nat) : List Nat → Bool
  | [] => false
  | y :: r => match eqn x y with | true => true | false => memB x r
theorem memB_iff {x : Nat} : ∀ {l : List Nat}, memB x l = true ↔ x ∈ l
  | [] => by simp [memB]
  | y :: r => by
    simp only [memB]
    cases h : eqn x y
    · have : x ≠ y := fun e => by subst e; simp at h
      simp [memB_iff (l := r), this]
    · simp [eqn_true h]
def nodN : List Nat → Bool
  | [] => true
  | x :: r => match memB x r with | true => false | false => nodN r
def idOf : C K → Option Nat
  | .p i _ => some i
  | .ifp _ i _ => some i
  | .row i => some i
  | .pr i _ _ _ => some i
  | _ => none
def reach (hp : List (Nat × Ob K)) : Nat → List (C K) → List Nat → List Nat
  | 0, _, acc => acc
  | _ + 1, [], acc => acc
  | n + 1, c :: r, acc => match idOf c with
    | none => reach hp n r acc
    | some i => match memB i acc with
      | true => reach hp n r acc
      | false => match lk hp i with
        | some (.box _ cs) => reach hp n (cat2 cs r) (cat2 acc [i])
        | some _ => reach hp n r (cat2 acc [i])
        | none => reach hp n r acc
def reid (φ : Nat → Option Nat) : C K → C K
  | .p i o => (match φ i with | some j => .p j o | none => .top)
  | .ifp T i o => (match φ i with | some j => .ifp T j o | none => .top)
  | .row i => (match φ i with | some j => .row j | none => .top)
  | .pr i s n j => (match φ i with | some i => .pr i s n j | none => .top)
  | x => x
def posOf (i : Nat) : List Nat → Nat → Option Nat
  | [], _ => none
  | j :: r, p => match eqn j i with | true => some p | false => posOf i r (p + 1)
def atOf (j : Nat) : List Nat → Nat → Option Nat
  | [], _ => none
  | i :: r, p => match eqn p j with | true => some i | false => atOf j r (p + 1)
def lentHp (hp : List (Nat × Ob K)) (φ : Nat → Option Nat) : List Nat → Nat → Option (List (Nat × Ob K))
  | [], _ => some []
  | i :: r, p => match lk hp i, lentHp hp φ r (p + 1) with | some ob, some l => some ((p, ob.map (reid φ)) :: l) | _, _ => none
/-- A lent object that comes back in its place. -/
def stay (still : Bool) (hp : List (Nat × Ob K)) (ids : List Nat) (j : Nat) : Option Nat :=
  match atOf j ids 1000000 with
  | some i => (match still with
    | true => some i
    | false => (match lk hp i with | some (.row _ _) => (match ltn i 1000000 with | true => some i | false => none) | _ => some i))
  | none => none
def newKeys (still : Bool) (hp : List (Nat × Ob K)) (ids : List Nat) : List (Nat × Ob K) → List Nat
  | [] => []
  | (i, _) :: r => match stay still hp ids i with | some _ => newKeys still hp ids r | none => i :: newKeys still hp ids r
def fromC (still : Bool) (hp : List (Nat × Ob K)) (ids news : List Nat) (d : Nat) (j : Nat) : Option Nat :=
  match stay still hp ids j with
  | some i => some i
  | none => match posOf j news 1 with
    | some p => (match lk hp (p * 1000 + d), len 1000000 (p * 1000 + d) with | none, false => some (p * 1000 + d) | _, _ => none)
    | none => none
def backHp (φ : Nat → Option Nat) : List (Nat × Ob K) → Option (List (Nat × Ob K))
  | [] => some []
  | (j, ob) :: r => match φ j, backHp φ r with | some i, some l => some ((i, ob.map (reid φ)) :: l) | _, _ => none
def keysOk : List (Nat × Ob K) → Bool
  | [] => true
  | (i, _) :: r => match lk r i with | none => keysOk r | some _ => false
def remAll : List Nat → List (Nat × Ob K) → List (Nat × Ob K)
  | [], hp => hp
  | i :: r, hp => remAll r (rem i hp)
def kl (L : List Nat) (c : C K) : C K :=
  match idOf c with
  | none => c
  | some i => match memB i L with | true => .top | false => c
def dead (still : Bool) (hp h : List (Nat × Ob K)) : List Nat → List Nat
  | [] => []
  | i :: r => match still, lk hp i with
    | false, some (.row _ _) => i :: dead still hp h r
    | _, _ => match lk h i with | some _ => dead still hp h r | none => i :: dead still hp h r
def cellsOf : List (B K) → List (C K)
  | [] => []
  | b :: r => cat2 b.cells (cellsOf r)
def bargs (st : St K) : List O → Option (List (B K))
  | [] => some []
  | x :: r => match ev st x, bargs st r with | .b b, some l => some (b :: l) | _, _ => none

def lend3 (still : Bool) (st : St K) (d : Option Nat) (ids : List Nat) (φ : Nat → Option Nat) (r : A K) (hp' : List (Nat × Ob K)) (q : St K → Prop) : Prop :=
  match backHp φ hp' with
  | some h => (match keysOk h with
    | true => q (({ sl := mapS (A.map (kl (dead still st.hp h ids))) st.sl, hp := cat2 h (mapS (Ob.map (kl (dead still st.hp h ids))) (remAll ids st.hp)) } : St K).put d (r.map (reid φ)))
    | false => False)
  | none => False
def dnum : Option Nat → Nat | none => 999 | some d => d
def lend2 (st : St K) (d : Option Nat) (s : Sp K) (l : List (B K)) (ids : List Nat) (q : St K → Prop) : Prop :=
  match lenB l s.ar, nodN ids, lentHp st.hp (fun i => posOf i ids 1000000) ids 1000000 with
  | true, true, some hl => (match s.g (l.map (B.map (reid fun i => posOf i ids 1000000))) hl with
    | some (pre, r, hp') => pre ∧ lend3 s.still st d ids (fromC s.still st.hp ids (newKeys s.still st.hp ids hp') (dnum d)) r hp' q
    | none => False)
  | _, _, _ => False
/-- A call with objects that are lent to it. -/
def lend1 (st : St K) (d : Option Nat) (s : Sp K) (l : List (B K)) (q : St K → Prop) : Prop :=
  lend2 st d s l (reach st.hp 256 (cellsOf l) []) q

/-! ### Renamings -/
theorem posOf_at {i j : Nat} : ∀ {l : List Nat} {p : Nat}, posOf i l p = some j → atOf j l p = some i ∧ p ≤ j
  | [], p, h => by simp [posOf] at h
  | x :: r, p, h => by
    simp only [posOf] at h
    split at h
    · rename_i hx
      injection h with h; subst h
      have := eqn_true hx; subst this
      simp [atOf]
    · obtain ⟨h1, h2⟩ := posOf_at h
      have : eqn p j = false := by
        cases h' : eqn p j
        · rfl
        · have := eqn_true h'; omega
      exact ⟨by simp only [atOf, this]; exact h1, by omega⟩
theorem atOf_mem {i j : Nat} : ∀ {l : List Nat} {p : Nat}, atOf j l p = some i → i ∈ l ∧ p ≤ j
  | [], p, h => by simp [atOf] at h
  | x :: r, p, h => by
    simp only [atOf] at h
    split at h
    · rename_i hx
      injection h with h; subst h
      exact ⟨by simp, by have := eqn_true hx; omega⟩
    · obtain ⟨h1, h2⟩ := atOf_mem h
      exact ⟨by simp [h1], by omega⟩
theorem at_posOf {i j : Nat} : ∀ {l : List Nat} {p : Nat}, nodN l = true → atOf j l p = some i → posOf i l p = some j
  | [], p, _, h => by simp [atOf] at h
  | x :: r, p, hn, h => by
    simp only [nodN] at hn
    split at hn
    · cases hn
    · rename_i hx
      simp only [atOf] at h
      split at h
      · rename_i hp
        injection h with h; subst h
        have := eqn_true hp; subst this
        simp [posOf]
      · obtain ⟨h1, h2⟩ := atOf_mem h
        have : eqn x i = false := by
          cases h' : eqn x i
          · rfl
          · have := eqn_true h'; subst this
            rw [memB_iff.2 h1] at hx; cases hx
        simp only [posOf, this]
        exact at_posOf hn h
theorem mem_pos {i : Nat} : ∀ {l : List Nat} {p : Nat}, i ∈ l → ∃ j, posOf i l p = some j
  | [], _, h => by cases h
  | x :: r, p, h => by
    simp only [posOf]
    cases hx : eqn x i
    · rcases List.mem_cons.1 h with rfl | h
      · simp at hx
      · exact mem_pos h
    · exact ⟨_, rfl⟩

theorem lentHp_lk {hp : List (Nat × Ob K)} {φ : Nat → Option Nat} {j : Nat} : ∀ {l : List Nat} {p : Nat} {hl : List (Nat × Ob K)}, lentHp hp φ l p = some hl →
    lk hl j = ((atOf j l p).bind (lk hp)).map (Ob.map (reid φ)) ∧ ∀ i ∈ l, ∃ ob, lk hp i = some ob
  | [], p, hl, h => by simp only [lentHp, Option.some.injEq] at h; subst h; exact ⟨rfl, fun i hi => by cases hi⟩
  | i :: r, p, hl, h => by
    simp only [lentHp] at h
    split at h
    · rename_i ob l h1 h2
      injection h with h; subst h
      obtain ⟨h3, h4⟩ := lentHp_lk (j := j) h2
      refine ⟨?_, fun i' hi' => (List.mem_cons.1 hi').elim (fun e => by subst e; exact ⟨_, h1⟩) (h4 i')⟩
      simp only [lk, atOf]
      cases eqn p j
      · exact h3
      · simp [h1]
    · cases h

theorem lk_cat {α : Type} {i : Nat} : ∀ {l m : List (Nat × α)}, lk (cat2 l m) i = match lk l i with | some x => some x | none => lk m i
  | [], m => rfl
  | (j, x) :: r, m => by
    simp only [cat2, lk]
    cases eqn j i
    · exact lk_cat
    · rfl
theorem lk_remAll {i : Nat} : ∀ {l : List Nat} {hp : List (Nat × Ob K)}, (i ∈ l → lk (remAll l hp) i = none) ∧ (i ∉ l → lk (remAll l hp) i = lk hp i)
  | [], hp => ⟨fun h => absurd h List.not_mem_nil, fun _ => rfl⟩
  | x :: r, hp => by
    have ih := lk_remAll (i := i) (l := r) (hp := rem x hp)
    refine ⟨fun h => ?_, fun h => ?_⟩
    · simp only [remAll]
      by_cases hr : i ∈ r
      · exact ih.1 hr
      · rw [ih.2 hr]
        rcases List.mem_cons.1 h with rfl | h
        · exact lk_rem_same _ _
        · exact (hr h).elim
    · simp only [remAll]
      rw [ih.2 fun hr => h (by simp [hr])]
      exact lk_rem_other (fun e => h (by simp [e])) _

theorem back_lk {φ : Nat → Option Nat} {i : Nat} : ∀ {hp h : List (Nat × Ob K)}, backHp φ hp = some h → ∀ {ob : Ob K}, lk h i = some ob → ∃ j ob', lk hp j = some ob' ∧ φ j = some i ∧ ob = ob'.map (reid φ)
  | [], h, hb, ob, hl => by simp only [backHp, Option.some.injEq] at hb; subst hb; simp [lk] at hl
  | (j0, ob0) :: r, h, hb, ob, hl => by
    simp only [backHp] at hb
    split at hb
    · rename_i i0 l h1 h2
      injection hb with hb; subst hb
      by_cases hi : i = i0
      · subst hi
        rw [lk_cons_same] at hl; injection hl with hl
        exact ⟨j0, ob0, lk_cons_same _ _ _, h1, hl.symm⟩
      · rw [lk_cons_other hi] at hl
        obtain ⟨j, ob', h3, h4, h5⟩ := back_lk h2 hl
        refine ⟨j, ob', ?_, h4, h5⟩
        rw [lk_cons_other fun e => by subst e; rw [h1] at h4; injection h4 with h4; exact hi h4.symm]
        exact h3
    · cases hb
theorem back_some {φ : Nat → Option Nat} {i j : Nat} : ∀ {hp h : List (Nat × Ob K)}, backHp φ hp = some h → ∀ {ob : Ob K}, lk hp j = some ob → φ j = some i → ∃ ob', lk h i = some ob'
  | [], h, hb, ob, hl, hφ => by simp [lk] at hl
  | (j0, ob0) :: r, h, hb, ob, hl, hφ => by
    simp only [backHp] at hb
    split at hb
    · rename_i i0 l h1 h2
      injection hb with hb; subst hb
      by_cases hi : i = i0
      · subst hi; exact ⟨_, lk_cons_same _ _ _⟩
      · rw [lk_cons_other hi]
        refine back_some h2 (ob := ob) ?_ hφ
        rw [lk_cons_other fun e => by subst e; rw [h1] at hφ; injection hφ with hφ; exact hi hφ.symm] at hl
        exact hl
    · cases hb
theorem back_inj {φ : Nat → Option Nat} {i j j' : Nat} : ∀ {hp h : List (Nat × Ob K)}, backHp φ hp = some h → keysOk h = true → ∀ {ob ob' : Ob K}, lk hp j = some ob → lk hp j' = some ob' → φ j = some i → φ j' = some i → j = j'
  | [], h, hb, hk, ob, ob', hl, _, _, _ => by simp [lk] at hl
  | (j0, ob0) :: r, h, hb, hk, ob, ob', hl, hl', hφ, hφ' => by
    simp only [backHp] at hb
    split at hb
    · rename_i i0 l h1 h2
      injection hb with hb; subst hb
      simp only [keysOk] at hk
      split at hk
      · rename_i hn
        by_cases e : j = j0 <;> by_cases e' : j' = j0
        · rw [e, e']
        · rw [lk_cons_other e'] at hl'
          subst e
          rw [h1] at hφ; injection hφ with hφ; subst hφ
          obtain ⟨_, h9⟩ := back_some h2 hl' hφ'
          rw [hn] at h9; cases h9
        · rw [lk_cons_other e] at hl
          subst e'
          rw [h1] at hφ'; injection hφ' with hφ'; subst hφ'
          obtain ⟨_, h9⟩ := back_some h2 hl hφ
          rw [hn] at h9; cases h9
        · rw [lk_cons_other e] at hl
          rw [lk_cons_other e'] at hl'
          exact back_inj h2 hk hl hl' hφ hφ'
      · cases hk
    · cases hb

def findK (φ : Nat → Option Nat) (i : Nat) : List (Nat × Ob K) → Option Nat
  | [] => none
  | (j, _) :: r => if φ j = some i then some j else findK φ i r
theorem findK_some {φ : Nat → Option Nat} {i j : Nat} : ∀ {hp : List (Nat × Ob K)}, findK φ i hp = some j → φ j = some i ∧ ∃ ob, lk hp j = some ob
  | [], h => by simp [findK] at h
  | (j0, ob0) :: r, h => by
    simp only [findK] at h
    split at h
    · injection h with h; subst h; exact ⟨‹_›, _, lk_cons_same _ _ _⟩
    · rename_i hne
      obtain ⟨h1, ob, h2⟩ := findK_some h
      exact ⟨h1, ob, by rw [lk_cons_other fun e => by subst e; exact hne h1]; exact h2⟩
theorem findK_none {φ : Nat → Option Nat} {i j : Nat} : ∀ {hp : List (Nat × Ob K)}, findK φ i hp = none → φ j = some i → lk hp j = none
  | [], _, _ => rfl
  | (j0, ob0) :: r, h, hφ => by
    simp only [findK] at h
    split at h
    · cases h
    · rename_i hne
      rw [lk_cons_other fun e => by subst e; exact hne hφ]
      exact findK_none h hφ

theorem reid_rel {D : Dom K} {ok ok' : Nat → Prop} {w w' : World} {val val' : Nat → Option Value} {φ : Nat → Option Nat} (hm : Mv ok ok' w w') (hφ : ∀ i j v, φ i = some j → val i = some v → val' j = some v) {x : C K} {y : Value}
    (h : Rc D val ok w x y) : Rc D val' ok' w' (reid φ x) y := by
  have h1 := Rc_one D h
  have top : Rc D val' ok' w' .top y := ⟨0, h1⟩
  cases x with
  | p i o =>
    obtain ⟨b, h2, rfl⟩ := rc_p h
    simp only [reid]
    split
    · exact ⟨0, b, hφ _ _ _ ‹_› h2, rfl⟩
    · exact top
  | ifp T i o =>
    obtain ⟨n, hn⟩ := h
    simp only [reid]
    split
    · cases n <;> (obtain ⟨b, h2, rfl⟩ := hn; exact ⟨0, b, hφ _ _ _ ‹_› h2, rfl⟩)
    · exact top
  | row i =>
    obtain ⟨h2, h3⟩ := rc_row h
    simp only [reid]
    split
    · exact ⟨0, hφ _ _ _ ‹_› h2, h3⟩
    · exact top
  | pr i s n j =>
    obtain ⟨v, b, h2, h3, rfl⟩ := rc_pr h
    simp only [reid]
    split
    · exact ⟨0, v, b, hφ _ _ _ ‹_› h2, h3, rfl⟩
    · exact top
  | _ => exact h.mv D hm fun i hi => by simp [C.has] at hi

theorem idOf_has {x : C K} {i : Nat} : x.has i = true ↔ idOf x = some i := by
  cases x <;> simp [C.has, idOf]
end

section
variable {K : Type} {N : Hide} {P : Program} {D : Dx K} {R : List (Nat × Sp K)} {mb : Bw} {okc : Nat → Prop} {w0 w : World} {nt : Nat} {val : Nat → Option Value} {st : St K} {a : Act} {o : Oper}

theorem callFunc_enter {n : Nat} {us : Array Value} (hent : enters P n = true) : (callFunc n us).run P w = .ok (.enter n us) w := by
  unfold enters at hent
  cases hf : P.funcs[n]? with
  | none => simp [hf] at hent
  | some fn =>
    simp only [hf] at hent
    have h1 : (fn.name == "runtime.NumGoroutine") = false := by
      cases h : fn.name == "runtime.NumGoroutine" <;> simp_all
    have h2 : fn.body.isNone = false := by
      cases h : fn.body <;> simp_all
    have h1' : ¬ fn.name = "runtime.NumGoroutine" := by simpa using h1
    have h2' : ¬ fn.body = none := by intro e; simp [e] at h2
    simp [callFunc, hf, h1', h2']

theorem stay_ok {still : Bool} {hp : List (Nat × Ob K)} {ids : List Nat} {i j : Nat} (h : stay still hp ids j = some i) : atOf j ids 1000000 = some i ∧ ((still = true ∨ ∀ e k, lk hp i ≠ some (.row e k)) ∨ i < 1000000) := by
  unfold stay at h
  split at h
  · rename_i i' hi
    split at h
    · injection h with h; subst h; exact ⟨hi, .inl (.inl rfl)⟩
    · split at h
      · split at h
        · rename_i hlt
          injection h with h; subst h
          exact ⟨hi, .inr (ltn_true hlt)⟩
        · cases h
      · rename_i hne
        injection h with h; subst h
        exact ⟨hi, .inl (.inr fun e k he => hne e k he)⟩
  · cases h
theorem fromC_src {still : Bool} {hp : List (Nat × Ob K)} {ids news : List Nat} {d i j : Nat} (h : fromC still hp ids news d j = some i) :
    (atOf j ids 1000000 = some i ∧ (still = true ∨ ∀ e k, lk hp i ≠ some (.row e k))) ∨ ((lk hp i = none ∨ atOf j ids 1000000 = some i) ∧ i < 1000000) := by
  unfold fromC at h
  split at h
  · rename_i i' hi; injection h with h; subst h
    obtain ⟨h1, h2 | h2⟩ := stay_ok hi
    · exact .inl ⟨h1, h2⟩
    · exact .inr ⟨.inr h1, h2⟩
  · split at h
    · split at h
      · rename_i h1 h2
        injection h with h; subst h
        refine .inr ⟨.inl h1, ?_⟩
        rcases Nat.lt_or_ge _ 1000000 with h3 | h3
        · exact h3
        · rw [len_of h3] at h2; cases h2
      · cases h
    · cases h

theorem dead_mem {still : Bool} {hp h : List (Nat × Ob K)} {i : Nat} : ∀ {l : List Nat}, i ∈ l → i ∉ dead still hp h l → (∃ ob, lk h i = some ob) ∧ (still = true ∨ ∀ e k, lk hp i ≠ some (.row e k))
  | [], hi, _ => absurd hi List.not_mem_nil
  | x :: r, hi, hd => by
    have sub : i ∉ dead still hp h r := by
      intro h9
      simp only [dead] at hd
      split at hd
      · exact hd (by simp [h9])
      · split at hd
        · exact hd h9
        · exact hd (by simp [h9])
    rcases List.mem_cons.1 hi with rfl | hi
    · cases hs : still with
      | true =>
        subst hs
        simp only [dead] at hd
        cases hl : lk h i with
        | some ob => exact ⟨⟨ob, rfl⟩, .inl rfl⟩
        | none => rw [hl] at hd; simp at hd
      | false =>
        subst hs
        cases hr : lk hp i with
        | some ob =>
          cases ob with
          | row e k => simp [dead, hr] at hd
          | box t cs =>
            simp only [dead, hr] at hd
            cases hl : lk h i with
            | some ob => exact ⟨⟨ob, rfl⟩, .inr fun e k he => by cases he⟩
            | none => rw [hl] at hd; simp at hd
          | arr t k0 =>
            simp only [dead, hr] at hd
            cases hl : lk h i with
            | some ob => exact ⟨⟨ob, rfl⟩, .inr fun e k he => by cases he⟩
            | none => rw [hl] at hd; simp at hd
        | none =>
          simp only [dead, hr] at hd
          cases hl : lk h i with
          | some ob => exact ⟨⟨ob, rfl⟩, .inr fun e k he => by cases he⟩
          | none => rw [hl] at hd; simp at hd
    · exact dead_mem hi sub

theorem lend_sound {n : Nat} {s : Sp K} {l : List (B K)} {us : List Value} {q : St K → Prop} (hst : Rst D.toDom mb okc w0 nt val st a w) (hm : Meets P D.toDom n s) (hnt : ∀ t, o.dst = some t → t < nt)
    (hrun : (execOp a.eval o).run P w = (callFunc n us.toArray).run P w) (hr : RBv D.toDom val (okS w0.heap.size okc st.hp val) w l us) (h : lend1 st o.dst s l q) : ∃ st', q st' ∧ Leaves P D mb okc w0 nt a w o st' := by
  obtain ⟨hent, _, _, hc⟩ := hm
  unfold lend1 at h
  generalize reach st.hp 256 (cellsOf l) [] = ids at h
  unfold lend2 at h
  split at h
  case h_2 => exact h.elim
  rename_i hl hlen hnod hlent
  split at h
  case h_2 => exact h.elim
  rename_i pre r hp' hg
  obtain ⟨hpre, h⟩ := h
  unfold lend3 at h
  split at h
  case h_2 => exact h.elim
  rename_i h0 hback
  split at h
  case h_2 => exact h.elim
  rename_i hkeys
  refine ⟨_, h, ?_⟩
  generalize hφ : fromC s.still st.hp ids (newKeys s.still st.hp ids hp') (dnum o.dst) = φ at hback h
  have hsrc : ∀ i j, φ j = some i → (atOf j ids 1000000 = some i ∧ (s.still = true ∨ ∀ e k, lk st.hp i ≠ some (.row e k))) ∨ ((lk st.hp i = none ∨ atOf j ids 1000000 = some i) ∧ i < 1000000) := fun i j hj => by subst hφ; exact fromC_src hj
  -- what is lent
  let valL : Nat → Option Value := fun j => (atOf j ids 1000000).bind val
  have hlk : ∀ j, lk hl j = ((atOf j ids 1000000).bind (lk st.hp)).map (Ob.map (reid fun i => posOf i ids 1000000)) := fun j => (lentHp_lk (j := j) hlent).1
  have hids : ∀ i ∈ ids, ∃ ob, lk st.hp i = some ob := (lentHp_lk (j := 0) hlent).2
  have hlk' : ∀ j ob, lk hl j = some ob → ∃ i ob0, atOf j ids 1000000 = some i ∧ lk st.hp i = some ob0 ∧ ob = ob0.map (reid fun i => posOf i ids 1000000) ∧ valL j = val i := by
    intro j ob hj
    rw [hlk] at hj
    obtain ⟨ob0, h1, h2⟩ := Option.map_eq_some_iff.1 hj
    obtain ⟨i, h3, h4⟩ := Option.bind_eq_some_iff.1 h1
    exact ⟨i, ob0, h3, h4, h2.symm, by simp [valL, h3]⟩
  have hlend : ∀ b, (lend s.still hl valL).b b → ∃ i ob v, i ∈ ids ∧ lk st.hp i = some ob ∧ val i = some v ∧ vblk v = some b := by
    rintro b ⟨j, ob, v, h1, h2, h3⟩
    obtain ⟨i, ob0, h4, h5, _, h6⟩ := hlk' j ob h1
    exact ⟨i, ob0, v, (atOf_mem h4).1, h5, by rw [← h6]; exact h2, h3⟩
  let okC := okS w0.heap.size okc st.hp val
  let okL : Nat → Prop := fun b => okC b ∨ (lend s.still hl valL).b b
  have hnl : ∀ b, okC b → ¬ (lend s.still hl valL).b b := fun b hb hlb => by
    obtain ⟨i, ob, v, _, h1, h2, h3⟩ := hlend b hlb
    exact hb.2 i ob v h1 h2 h3
  have hmL : Mv okC (okS w.heap.size okL hl valL) w w := by
    refine ⟨fun b hlt hb => ⟨⟨fun _ => .inl hb, fun j ob v hj hv hbb => ?_⟩, rfl⟩, Nat.le_refl _⟩
    exact hnl b hb ⟨j, ob, v, hj, hv, hbb⟩
  have hσL : ∀ i j v, (fun i => posOf i ids 1000000) i = some j → val i = some v → valL j = some v := fun i j v hij hv => by
    simp only [valL, (posOf_at hij).1, Option.bind_some, hv]
  have hold : Hold D.toDom (lend s.still hl valL) okL w valL hl w := by
    refine ⟨Keep.refl _ _, rfl, rfl, fun t x hx => by simp [lk] at hx, fun j ob hj => ?_, fun j hj => ?_, fun j j' ob ob' v v' b hj hj' hv hv' hb hb' => ?_, fun b hb => .inr hb, fun j ob v hp hj => ?_, fun j v hp => ?_, Nat.zero_le _⟩
    · obtain ⟨i, ob0, h1, h2, rfl, h3⟩ := hlk' j ob hj
      obtain ⟨v, h4, h5, h6⟩ := hst.hp i ob0 h2
      exact ⟨v, by rw [h3]; exact h4, h5.map D.toDom hmL (fun x y hxy => reid_rel hmL hσL hxy) fun _ _ => rfl, fun b hb => ⟨(h6 b hb).1, .inl ⟨j, _, v, hj, by rw [h3]; exact h4, hb⟩⟩⟩
    · simp only at hj
      rw [hlk] at hj
      cases hat : atOf j ids 1000000 with
      | none => simp [valL, hat]
      | some i =>
        rw [hat] at hj
        simp only [Option.bind_some, Option.map_eq_none_iff] at hj
        simp [valL, hat, hst.vl i hj]
    · obtain ⟨i, ob0, h1, h2, rfl, h3⟩ := hlk' j ob hj
      obtain ⟨i', ob0', h1', h2', rfl, h3'⟩ := hlk' j' ob' hj'
      have : i = i' := hst.dj i i' _ _ v v' b h2 h2' (by rw [← h3]; exact hv) (by rw [← h3']; exact hv') hb hb'
      subst this
      have e1 := at_posOf hnod h1
      have e2 := at_posOf hnod h1'
      rw [e1] at e2; injection e2
    · simp only [lend] at hp
      simp only at hj
      rw [hj] at hp
      cases ob with
      | row e k =>
        simp only at hp
        split at hp
        · exact hp
        · cases hp
      | box t cs => exact hp
      | arr t k => exact hp
    · simp only [lend] at hp
      cases hj : lk hl j with
      | none => rw [hj] at hp; cases hp
      | some ob =>
        obtain ⟨i, ob0, h1, _⟩ := hlk' j ob hj
        exact (atOf_mem h1).2
  have hargs : RBv D.toDom valL (okS w.heap.size okL hl valL) w (l.map (B.map (reid fun i => posOf i ids 1000000))) us := by
    refine ⟨by simpa using hr.1, fun j x hx => ?_⟩
    rw [List.getElem?_map] at hx
    obtain ⟨x0, h1, rfl⟩ := Option.map_eq_some_iff.1 hx
    obtain ⟨y, h2, h3⟩ := hr.2 j x0 h1
    exact ⟨y, h2, h3.map D.toDom fun x y hxy => reid_rel hmL hσL hxy⟩
  intro next Q hn
  unfold Oper.wp
  rw [hrun, callFunc_enter hent, Oper.upon_enter]
  refine (hc _ hl pre r hp' (by rw [List.length_map]; exact lenB_eq hlen) hg hpre okL w valL us hold hargs).mono ?_
  rintro e w' ⟨v, val', rfl, hold', hra⟩
  have keep' := hold'.keep
  -- the values behind it
  let val2 : Nat → Option Value := fun i => match findK φ i hp' with | some j => val' j | none => if i ∈ ids then none else val i
  have f1 : ∀ i j ob, φ j = some i → lk hp' j = some ob → val2 i = val' j := by
    intro i j ob hj hl1
    cases hf : findK φ i hp' with
    | none => rw [findK_none hf hj] at hl1; cases hl1
    | some j' =>
      obtain ⟨h1, ob', h2⟩ := findK_some hf
      have : j' = j := back_inj hback hkeys h2 hl1 h1 hj
      subst this
      simp only [val2, hf]
  have fnone : ∀ i, lk h0 i = none → findK φ i hp' = none := by
    intro i hi
    cases hf : findK φ i hp' with
    | none => rfl
    | some j =>
      obtain ⟨h1, ob', h2⟩ := findK_some hf
      obtain ⟨_, h3⟩ := back_some hback h2 h1
      rw [hi] at h3; cases h3
  have f2 : ∀ i, lk h0 i = none → i ∉ ids → val2 i = val i := fun i h1 h2 => by simp only [val2, fnone i h1, if_neg h2]
  have f3 : ∀ i, lk h0 i = none → i ∈ ids → val2 i = none := fun i h1 h2 => by simp only [val2, fnone i h1, if_pos h2]
  let L := dead s.still st.hp h0 ids
  let H := cat2 h0 (mapS (Ob.map (kl L)) (remAll ids st.hp))
  have lookH : ∀ i ob, lk H i = some ob → (∃ j ob', lk hp' j = some ob' ∧ φ j = some i ∧ ob = ob'.map (reid φ) ∧ val2 i = val' j) ∨ (lk h0 i = none ∧ i ∉ ids ∧ val2 i = val i ∧ ∃ ob0, lk st.hp i = some ob0 ∧ ob = ob0.map (kl L)) := by
    intro i ob hi
    simp only [H] at hi
    rw [lk_cat] at hi
    cases h1 : lk h0 i with
    | some ob1 =>
      rw [h1] at hi; simp only at hi; injection hi with hi; subst hi
      obtain ⟨j, ob', h2, h3, h4⟩ := back_lk hback h1
      exact .inl ⟨j, ob', h2, h3, h4, f1 i j ob' h3 h2⟩
    | none =>
      rw [h1] at hi; simp only at hi
      rw [lk_mapS] at hi
      obtain ⟨ob0, h2, h3⟩ := Option.map_eq_some_iff.1 hi
      by_cases hmem : i ∈ ids
      · rw [lk_remAll.1 hmem] at h2; cases h2
      · rw [lk_remAll.2 hmem] at h2
        exact .inr ⟨rfl, hmem, f2 i h1 hmem, ob0, h2, h3.symm⟩
  have newblk : ∀ j ob v b, lk hp' j = some ob → val' j = some v → vblk v = some b → b < w'.heap.size ∧ ((lend s.still hl valL).b b ∨ w.heap.size ≤ b) := by
    intro j ob v b h1 h2 h3
    obtain ⟨v', h4, _, h5⟩ := hold'.hp j ob h1
    rw [h2] at h4; injection h4 with h4; subst h4
    exact h5 b h3
  have oldblk : ∀ i ob v b, lk st.hp i = some ob → val i = some v → vblk v = some b → b < w.heap.size ∧ (mb.b b ∨ w0.heap.size ≤ b) := by
    intro i ob v b h1 h2 h3
    obtain ⟨v', h4, _, h5⟩ := hst.hp i ob h1
    rw [h2] at h4; injection h4 with h4; subst h4
    exact h5 b h3
  have notlent : ∀ i ob v b, lk st.hp i = some ob → val i = some v → vblk v = some b → i ∉ ids → ¬ (lend s.still hl valL).b b := by
    intro i ob v b h1 h2 h3 h4 h5
    obtain ⟨i', ob', v', h6, h7, h8, h9⟩ := hlend b h5
    have := hst.dj i i' _ _ v v' b h1 h7 h2 h8 h3 h9
    subst this
    exact h4 h6
  let okN := okS w0.heap.size okc H val2
  have m1 : Mv okC okN w w' := by
    refine ⟨fun b hlt hb => ⟨⟨hb.1, fun i ob v hi hv hbb => ?_⟩, keep'.block b hlt (hnl b hb)⟩, keep'.size⟩
    rcases lookH i ob hi with ⟨j, ob', h1, h2, _, h3⟩ | ⟨_, _, h3, ob0, h1, _⟩
    · rcases (newblk j ob' v b h1 (by rw [← h3]; exact hv) hbb).2 with h4 | h4
      · exact hnl b hb h4
      · omega
    · exact hb.2 i ob0 v h1 (by rw [← h3]; exact hv) hbb
  have hsub : ∀ b, (lend s.still hl valL).b b → mb.b b ∨ w0.heap.size ≤ b := fun b hb => by
    obtain ⟨i, ob, v, _, h1, h2, h3⟩ := hlend b hb
    exact (oldblk i ob v b h1 h2 h3).2
  have m2 : Mv (okS w.heap.size okL hp' val') okN w' w' := by
    refine ⟨fun b hlt hb => ⟨⟨fun hb0 => ?_, fun i ob v hi hv hbb => ?_⟩, rfl⟩, Nat.le_refl _⟩
    · rcases hb.1 (Nat.lt_of_lt_of_le hb0 hst.keep.size) with h1 | h1
      · exact h1.1 hb0
      · rcases hsub b h1 with h2 | h2
        · exact hst.bok b h2
        · omega
    · rcases lookH i ob hi with ⟨j, ob', h1, h2, _, h3⟩ | ⟨_, hni, h3, ob0, h1, _⟩
      · exact hb.2 j ob' v h1 (by rw [← h3]; exact hv) hbb
      · rw [h3] at hv
        have h4 := (oldblk i ob0 v b h1 hv hbb).1
        rcases hb.1 h4 with h5 | h5
        · exact h5.2 i ob0 v h1 hv hbb
        · exact notlent i ob0 v b h1 hv hbb hni h5
  have hpin : ∀ i j ob0 v, atOf j ids 1000000 = some i → lk st.hp i = some ob0 → (s.still = true ∨ ∀ e k, lk st.hp i ≠ some (.row e k)) → val i = some v → ∀ ob', lk hp' j = some ob' → val' j = some v := by
    intro i j ob0 v h1 h2 h3 h4 ob' h5
    refine hold'.pin j ob' v ?_ h5
    have h6 : lk hl j = some (ob0.map (reid fun i => posOf i ids 1000000)) := by rw [hlk, h1]; simp [h2]
    simp only [lend, h6]
    cases ob0 with
    | row e k =>
      rcases h3 with h3 | h3
      · simp [Ob.map, valL, h1, h4, h3]
      · exact (h3 e k h2).elim
    | box t cs => simp [Ob.map, valL, h1, h4]
    | arr t k => simp [Ob.map, valL, h1, h4]
  have r1 : ∀ x y, Rc D.toDom val okC w x y → Rc D.toDom val2 okN w' (kl L x) y := by
    intro x y hxy
    unfold kl
    split
    · rename_i hid
      refine hxy.mv D.toDom m1 fun i hi => ?_
      rw [idOf_has, hid] at hi; cases hi
    · rename_i i hid
      split
      · exact ⟨0, Rc_one _ hxy⟩
      · rename_i hnL
        have hnL : i ∉ L := fun h => by rw [memB_iff.2 h] at hnL; cases hnL
        refine hxy.mv D.toDom m1 fun i' hi' => ?_
        have : i' = i := by rw [idOf_has, hid] at hi'; injection hi' with hi'; exact hi'.symm
        subst this
        obtain ⟨v, hv⟩ := hxy.live D.toDom hi'
        have hlive : lk st.hp i' ≠ none := fun hno => by rw [hst.vl i' hno] at hv; cases hv
        by_cases hmem : i' ∈ ids
        · obtain ⟨⟨ob1, h1⟩, h2⟩ := dead_mem hmem hnL
          obtain ⟨j, ob', h3, h4, _⟩ := back_lk hback h1
          rcases hsrc i' j h4 with h5 | ⟨h5 | h5, _⟩
          · obtain ⟨ob0, h6⟩ := hids i' hmem
            rw [f1 i' j ob' h4 h3, hpin i' j ob0 v h5.1 h6 h5.2 hv ob' h3, hv]
          · exact (hlive h5).elim
          · obtain ⟨ob0, h6⟩ := hids i' hmem
            rw [f1 i' j ob' h4 h3, hpin i' j ob0 v h5 h6 h2 hv ob' h3, hv]
        · have : lk h0 i' = none := by
            cases h1 : lk h0 i' with
            | none => rfl
            | some ob1 =>
              obtain ⟨j, ob', h3, h4, _⟩ := back_lk hback h1
              rcases hsrc i' j h4 with h5 | ⟨h5 | h5, _⟩
              · exact (hmem (atOf_mem h5.1).1).elim
              · exact (hlive h5).elim
              · exact (hmem (atOf_mem h5).1).elim
          exact f2 i' this hmem
  have hφ2 : ∀ j i v, φ j = some i → val' j = some v → val2 i = some v := by
    intro j i v h1 h2
    cases h3 : lk hp' j with
    | none => rw [hold'.vl j h3] at h2; cases h2
    | some ob => rw [f1 i j ob h1 h3, h2]
  have r2 : ∀ x y, Rc D.toDom val' (okS w.heap.size okL hp' val') w' x y → Rc D.toDom val2 okN w' (reid φ x) y := fun x y hxy => reid_rel m2 hφ2 hxy
  have hnew : Rst D.toDom mb okc w0 nt val2 { sl := mapS (A.map (kl L)) st.sl, hp := H } a w' := by
    refine ⟨⟨keep'.os.trans hst.keep.os, keep'.tape.trans hst.keep.tape, keep'.output.trans hst.keep.output, Nat.le_trans hst.keep.size keep'.size, fun b hlt hnb => ?_⟩, hst.defs, hst.size, fun t x hx => ?_, fun i ob hi => ?_, fun i hi => ?_, fun i i' ob ob' v v' b hi hi' hv hv' hb hb' => ?_, hst.bok, fun i ob v hp hi => ?_, hst.pinlt, hst.ntle⟩
    · refine (keep'.block b (Nat.lt_of_lt_of_le hlt hst.keep.size) fun hb => ?_).trans (hst.keep.block b hlt hnb)
      rcases hsub b hb with h1 | h1
      · exact hnb h1
      · omega
    · simp only at hx
      rw [lk_mapS] at hx
      obtain ⟨x0, h1, rfl⟩ := Option.map_eq_some_iff.1 hx
      obtain ⟨y, h2, h3⟩ := hst.sl t x0 h1
      exact ⟨y, h2, h3.map D.toDom r1⟩
    · rcases lookH i ob hi with ⟨j, ob', h1, h2, rfl, h3⟩ | ⟨_, hni, h3, ob0, h1, rfl⟩
      · obtain ⟨v, h4, h5, h6⟩ := hold'.hp j ob' h1
        refine ⟨v, by rw [h3]; exact h4, h5.map D.toDom m2 r2 fun _ _ => rfl, fun b hb => ⟨(h6 b hb).1, ?_⟩⟩
        rcases (h6 b hb).2 with h7 | h7
        · exact hsub b h7
        · exact .inr (Nat.le_trans hst.keep.size h7)
      · obtain ⟨v, h4, h5, h6⟩ := hst.hp i ob0 h1
        exact ⟨v, by rw [h3]; exact h4, h5.map D.toDom m1 r1 fun b hb => keep'.block b (h6 b hb).1 (notlent i ob0 v b h1 h4 hb hni), fun b hb => ⟨Nat.lt_of_lt_of_le (h6 b hb).1 keep'.size, (h6 b hb).2⟩⟩
    · simp only [H] at hi
      rw [lk_cat] at hi
      cases h1 : lk h0 i with
      | some ob1 => rw [h1] at hi; cases hi
      | none =>
        rw [h1] at hi; simp only at hi
        rw [lk_mapS, Option.map_eq_none_iff] at hi
        by_cases hmem : i ∈ ids
        · exact f3 i h1 hmem
        · rw [f2 i h1 hmem]
          rw [lk_remAll.2 hmem] at hi
          exact hst.vl i hi
    · rcases lookH i ob hi with ⟨j, o1, h1, h2, _, h3⟩ | ⟨hh, hni, h3, o1, h1, _⟩ <;> rcases lookH i' ob' hi' with ⟨j', o2, h1', h2', _, h3'⟩ | ⟨hh', hni', h3', o2, h1', _⟩
      · rw [h3] at hv; rw [h3'] at hv'
        have := hold'.dj j j' o1 o2 v v' b h1 h1' hv hv' hb hb'
        subst this
        rw [h2] at h2'; injection h2'
      · rw [h3] at hv; rw [h3'] at hv'
        have g1 := (newblk j o1 v b h1 hv hb).2
        have g2 := (oldblk i' o2 v' b h1' hv' hb').1
        rcases g1 with g1 | g1
        · exact (notlent i' o2 v' b h1' hv' hb' hni' g1).elim
        · omega
      · rw [h3] at hv; rw [h3'] at hv'
        have g1 := (newblk j' o2 v' b h1' hv' hb').2
        have g2 := (oldblk i o1 v b h1 hv hb).1
        rcases g1 with g1 | g1
        · exact (notlent i o1 v b h1 hv hb hni g1).elim
        · omega
      · rw [h3] at hv; rw [h3'] at hv'
        exact hst.dj i i' o1 o2 v v' b h1 h1' hv hv' hb hb'
    · rcases lookH i ob hi with ⟨j, o1, h1, h2, rfl, h3⟩ | ⟨hh, hni, h3, o1, h1, rfl⟩
      · rcases hsrc i j h2 with h4 | h4
        · obtain ⟨ob0, h5⟩ := hids i (atOf_mem h4.1).1
          rw [h3]
          exact hpin i j ob0 v h4.1 h5 h4.2 (hst.pin i ob0 v hp h5) o1 h1
        · have := hst.pinlt i v hp; omega
      · rw [h3]; exact hst.pin i o1 v hp h1
  exact hn val2 (a.put o.dst v) w' (hnew.put D.toDom (hra.map D.toDom r2) hnt)

/-! ### A receiver, and a row that is cut short -/
def recvOf (st : St K) (ld : Option (Bool × Nat)) (i o : Nat) : Option (B K) :=
  match ld with
  | none => some (.c (.p i o))
  | some (g, sz) => match lk st.hp i with
    | some (.box _ cs) => (match lenB (tk sz (dr o cs)) sz with
      | true => (match g with
        | true => some (.g (tk sz (dr o cs)))
        | false => (match tk sz (dr o cs) with | [y] => some (.c y) | _ => none))
      | false => none)
    | _ => none

theorem bargs_rel {ok : Nat → Prop} {D : Dom K} (he : ∀ {x x'}, CO x x' → RA D val ok w (ev st x') (a.eval x)) : ∀ {xs : List Operand} {ys : List O}, COs xs ys → ∀ {l : List (B K)}, bargs st ys = some l → RBv D val ok w l (xs.map a.eval) := by
  intro xs ys hc
  induction hc with
  | nil => intro l h; simp only [bargs, Option.some.injEq] at h; subst h; exact ⟨rfl, fun j x hx => by simp at hx⟩
  | @cons x y xs ys hxy hc ih =>
    intro l h
    simp only [bargs] at h
    have hy := he hxy
    split at h
    · rename_i b l' hb hl
      rw [hb] at hy
      injection h with h; subst h
      obtain ⟨h1, h2⟩ := ih hl
      refine ⟨by simp [h1], fun j z hz => ?_⟩
      cases j with
      | zero => simp at hz; subst hz; exact ⟨_, rfl, hy⟩
      | succ j => simpa using h2 j z (by simpa using hz)
    · cases h

theorem rc_ifp {ok : Nat → Prop} {D : Dom K} {T i o : Nat} {u : Value} (h : Rc D val ok w (.ifp T i o) u) : ∃ b, val i = some (.pointer (some ⟨b, 0, none⟩)) ∧ u = .iface T (.pointer (some ⟨b, o, none⟩)) := by
  obtain ⟨n, h⟩ := h
  cases n <;> exact h

theorem hpv {i : Nat} {ob : Ob K} (hst : Rst D.toDom mb okc w0 nt val st a w) (hi : lk st.hp i = some ob) : ∃ v, val i = some v ∧ obRel D.toDom val (okS w0.heap.size okc st.hp val) w ob v := by
  obtain ⟨v, h1, h2, _⟩ := hst.hp i ob hi
  exact ⟨v, h1, h2⟩

theorem asAddr_some' {ad : Addr} : (asAddr (.pointer (some ad))).run P w = .ok ad w := rfl

/-- The method that is called, and its receiver. -/
theorem mth_run {T : TypeId} {name : String} {n : FuncId} {ld : Option (Bool × Nat)} (h : mthT P T name = some (n, ld)) (hst : Rst D.toDom mb okc w0 nt val st a w) {i of b : Nat} {bv : B K}
    (hv : val i = some (.pointer (some ⟨b, 0, none⟩))) (hr : recvOf st ld i of = some bv) :
    ∃ y, RB D.toDom val (okS w0.heap.size okc st.hp val) w bv y ∧ ∀ us : Array Value, (callMethod (.iface T (.pointer (some ⟨b, of, none⟩))) name us).run P w = (callFunc n (#[y] ++ us)).run P w := by
  unfold mthT at h
  split at h
  case h_2 => cases h
  rename_i ti E hti hu
  split at h
  case h_2 => cases h
  rename_i m hm
  split at h
  case h_2 => cases h
  rename_i f pr hpath hfunc
  have hfuel : P.types.size + Made.depth = (P.types.size + 99) + 1 := rfl
  have hti' : (typeInfo T).run P w = .ok ti w := by simp [typeInfo, hti]
  split at h
  · injection h with h; injection h with e1 e2; subst e1; subst e2
    simp only [recvOf] at hr
    injection hr with hr; subst hr
    refine ⟨_, ⟨0, b, hv, rfl⟩, fun us => ?_⟩
    have hmeth : ∀ k, (method (k + 1) T (.pointer (some ⟨b, of, none⟩)) name).run P w = .ok (f, .pointer (some ⟨b, of, none⟩)) w := fun k => by
      simp only [method, Sem.run_bind, hti', Result.andThen_ok, hm, hpath, follow, Sem.run_pure, hfunc, receiverAt, run_underlying hu, Place.get]
    simp only [callMethod, Sem.run_bind, run_program, Result.andThen_ok]
    rw [hfuel, hmeth]
    rfl
  · rename_i g sz hg hs
    injection h with h; injection h with e1 e2; subst e1; subst e2
    simp only [recvOf] at hr
    split at hr
    case h_2 => cases hr
    rename_i t cs hob
    obtain ⟨v', hv', b', us, rfl, hgp, hrs⟩ := hpv hst hob
    rw [hv] at hv'; injection hv' with hv'; injection hv' with hv'; injection hv' with hv'; injection hv' with hv'
    subst hv'
    have hrs2 := (hrs.drop D.toDom of).take D.toDom sz
    rw [← tk_eq, ← dr_eq] at hrs2
    have hcell : ∀ j u, ((us.toList.drop of).take sz)[j]? = some u → w.cell? ⟨b, of + j, none⟩ = some u := by
      intro j u hu
      rw [List.getElem?_take] at hu
      split at hu
      · rw [List.getElem?_drop] at hu
        rw [cell_of_row w b (of + j) us t (0, 0) hgp]
        simpa using hu
      · cases hu
    split at hr
    case h_2 => cases hr
    rename_i hl
    have hlen : ((us.toList.drop of).take sz).length = sz := by rw [← hrs2.1]; exact lenB_eq hl
    have hrun := run_ld (P := P) (w := w) hg hs hlen hcell
    simp only [Instr.loadAt, Instr.sureAddr, Sem.run_bind, Sem.run_pure, Result.andThen_ok] at hrun
    have key : ∀ y, (loadVar E ⟨b, of, none⟩).run P w = .ok y w → ∀ us : Array Value, (callMethod (.iface T (.pointer (some ⟨b, of, none⟩))) name us).run P w = (callFunc f (#[y] ++ us)).run P w := by
      intro y hy us
      have hmeth : ∀ k, (method (k + 1) T (.pointer (some ⟨b, of, none⟩)) name).run P w = .ok (f, y) w := fun k => by
        have hw : ∀ s1 s2 : ByteArray, (Builtin.ssaWrapNilChk_ #[T] T #[.pointer (some ⟨b, of, none⟩), .string s1, .string s2]).run P w = .ok (.pointer (some ⟨b, of, none⟩)) w := fun _ _ => rfl
        have hp0 : m.path.isEmpty = true := by rw [hpath]; rfl
        simp only [method, Sem.run_bind, hti', Result.andThen_ok, hm, hpath, follow, Sem.run_pure, hfunc, receiverAt, run_underlying hu, Place.get, strVal]
        rw [show (Array.isEmpty (⟨[]⟩ : Array FieldStep)) = true from rfl]
        simp only [if_true, Sem.run_bind, hw, Result.andThen_ok, asAddr_some', hy, Sem.run_pure]
      simp only [callMethod, Sem.run_bind, run_program, Result.andThen_ok]
      rw [hfuel, hmeth]
      rfl
    cases g with
    | true =>
      simp only [Option.some.injEq] at hr; subst hr
      exact ⟨_, ⟨_, rfl, hrs2⟩, key _ hrun⟩
    | false =>
      simp only at hr
      split at hr
      · rename_i y0 heq
        injection hr with hr; subst hr
        rw [heq] at hrs2
        obtain ⟨u, hu', hrc⟩ := hrs2.2 0 y0 rfl
        cases hus : (us.toList.drop of).take sz with
        | nil => rw [hus] at hu'; simp at hu'
        | cons u' r =>
          rw [hus] at hu'; simp at hu'; subst hu'
          rw [hus] at hrun
          exact ⟨_, hrc, key _ hrun⟩
      · cases hr
  · cases h

def slr (D : Dx K) (N : Hide) (st : St K) (d : Option Nat) (sz i : Nat) (lo hi : Option O) (q : St K → Prop) : Prop :=
  match d, lo, hi, lk st.hp i with
  | some d, none, some hi, some (.row e k) => (match ev st hi, eqn (D.sz k) sz, (match eqn d i with | true => true | false => (match lk st.hp d with | none => true | some _ => false)) with
    | .b (.c (.v (.int _ b))), true, true => (match D.sub k 0 (N.th fun _ => b.toNat) with
      | some k' => (N.th fun _ => 0 ≤ b ∧ b ≤ (D.len k : Int)) ∧ (N.th fun _ => D.wf k') ∧
          q { sl := (d, .b (.c (.row d))) :: mapS (A.map (kC i)) st.sl, hp := (d, .row e k') :: mapS (Ob.map (kC i)) (rem i st.hp) }
      | none => False)
    | _, _, _ => False)
  | _, _, _, _ => False

theorem slr_sound {T e : TypeId} {x : Operand} {lo hi : Option Operand} {x' : O} {lo' hi' : Option O} {sz i : Nat} (hst : Rst D.toDom mb okc w0 nt val st a w) (hop : o.op = .slice T x lo hi none) (hnt : ∀ t, o.dst = some t → t < nt)
    (hT : slE P T = some e) (hs : szT P e = some sz) (hx : CO x x') (hlo : COo lo lo') (hhi : COo hi hi') (hi0 : ev st x' = .b (.c (.row i))) {q : St K → Prop} (h : slr D N st o.dst sz i lo' hi' q) : ∃ st', q st' ∧ Leaves P D mb okc w0 nt a w o st' := by
  unfold slr at h
  split at h
  case h_2 => exact h.elim
  rename_i d hi1 e' k hdst hob
  split at h
  case h_2 => exact h.elim
  rename_i kk b hb hsz hd
  split at h
  case h_2 => exact h.elim
  rename_i k' hsub
  obtain ⟨hbb, hwf, hq⟩ := h
  have hbb := thp hbb
  have hwf := thp hwf
  rw [N.eq] at hsub
  have hsz := eqn_true hsz
  cases hlo
  cases hhi with
  | some hy =>
  obtain ⟨v, hv, hp, hwf0, xs, hown, hrs⟩ := hpv hst hob
  obtain ⟨hv2, _⟩ := rc_row (ev_c hst hx hi0)
  rw [hv] at hv2; injection hv2 with hv2
  obtain ⟨s1, s2, s3, s4⟩ := D.sub_law k _ _ k' hsub hp (Nat.zero_le _) (by omega)
  have hd' : d = i ∨ lk st.hp d = none := by
    split at hd
    · left; rename_i h1; exact eqn_true h1
    · split at hd
      · right; assumption
      · cases hd
  have hTe : P.underlying T = some (.slice (P.elem T)) := by rw [slE_some hT]; simp [Program.elem, slE_some hT]
  have hel : P.elem T = e := by simp [Program.elem, slE_some hT]
  have hbv := (ev_v hst hy hb).1
  have flat2 : D.flat k' = (D.flat k).take (D.len k' * D.sz k') := by
    rw [s4, s3, s2]; simp
  have hlk' : D.len k' = b.toNat := by omega
  have htk : D.len k' * D.sz k' ≤ D.len k * D.sz k := by rw [s2]; exact Nat.mul_le_mul_right _ (by omega)
  have go : ∀ v', (execOp a.eval o).run P w = .ok (.value v') w → (v'.ownBlock = v.ownBlock) → w.ownsRow 0 e' (D.sz k') v' (D.len k') (xs.take (D.len k' * D.sz k')) → ∃ st', q st' ∧ Leaves P D mb okc w0 nt a w o st' := by
    intro v' hrun hblk hown'
    have happ := hst.app D.toDom (d := d) (k' := k') (v' := v') (w' := w) (xs := xs.take (D.len k' * D.sz k')) hob hv hd' (hnt _ (by assumption)) s1 hwf ⟨rfl, rfl, rfl, Nat.le_refl _, fun _ _ _ => rfl⟩ (.inl hblk) hown' (fun ok' hm => by
      rw [flat2]; exact (hrs.mv D.toDom hm fun _ _ => rfl).take D.toDom _)
    have hput := happ.put D.toDom (x := .b (.c (.row d))) (y := v') (d := some d) ?_ (fun t ht => by injection ht with ht; subst ht; exact hnt _ (by assumption))
    · refine ⟨_, hq, leaves_value (val' := upd (upd val i none) d (some v')) hrun ?_⟩
      rw [show o.dst = some d by assumption]
      exact hput
    · rcases hown'.2 with ⟨rfl, _⟩ | ⟨g, cap, cur, rfl, _⟩
      · exact ⟨0, upd_same _ _, _, _, _, rfl⟩
      · exact ⟨0, upd_same _ _, _, _, _, rfl⟩
  have hxe : a.eval x = v := hv2.symm
  rcases hown.2 with ⟨hv0, h0⟩ | ⟨g, cap, cur, hv0, c1, c2, c3, c4, c5, c6⟩
  · have hb0 : b = 0 := by omega
    have := run_slice_h (P := P) w T none 0 0 hTe kk b (by omega) (by omega)
    refine go (.slice none 0 0) ?_ (by rw [hv0]) ⟨by rw [List.length_take, hown.1]; omega, .inl ⟨rfl, by omega⟩⟩
    subst hb0
    have hsl := run_sliceAt_slice (P := P) w T (.slice none 0 0) none (some (.int kk 0)) none hTe
    simp [execOp, hop, hxe, hv0, hbv, hsl, this, hel, run_sizeOf' hs, sliced]
  · have := run_slice_h (P := P) w T (some ⟨g, 0, none⟩) (D.len k) cap hTe kk b (by omega) (by omega)
    refine go (.slice (some ⟨g, 0, none⟩) (D.len k') cap) ?_ (by rw [hv0]; rfl) ⟨by rw [List.length_take, hown.1]; omega, .inr ⟨g, cap, cur, rfl, c1, c2, by omega, c4, by rw [s2]; exact c5, ?_⟩⟩
    · have hsl := run_sliceAt_slice (P := P) w T (.slice (some ⟨g, 0, none⟩) (D.len k) cap) none (some (.int kk b)) none hTe
      simp [execOp, hop, hxe, hv0, hbv, hsl, this, hel, run_sizeOf' hs, sliced, hlk']
      intro _; rw [add_addr]
    · rw [← c6, List.take_take]; congr 1; omega
end
end Go.Sy
