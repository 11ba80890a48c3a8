/- Whole bodies: the abstract run, and that the machine's body does so; functions' contracts. -/
import Derived.Test.YtfopdmoomdankaaSyR
set_option linter.unusedVariables false
set_option linter.unusedSimpArgs false
namespace Go.Sy
open Go

inductive S where
  | ops (l : List SO) | any (m : Nat) (l : List SO)
  | seq (a b : S) | cond (c : O) (t e : S) | block (id : Nat) (s : S) | loop (s : S) | exit (id : Nat) | ret | skip
  | frz (x : O) (s : S) | frzb (x : O) (s : S) | nil (t d : Nat) (e : TypeId) (s : S) | nilb (x : O) (j d : Nat) (e : TypeId) (s : S)

inductive Ex where | nm | ret | exit (id : Nat)

section
variable {K : Type} (N : Hide) (D : Dx K) (R : List (Nat × Sp K))

/-- The same cells, told as other known data. -/
def Eqv (a b : K) : Prop := a = b ∨ (D.ptr a = false ∧ D.ptr b = false ∧ D.len a = D.len b ∧ D.flat a = D.flat b ∧ D.wf b)
/-- What is known in one way may be told in another. -/
def leC (x y : C K) : Prop :=
  match y with
  | .top => True
  | .im k => (match x with
    | .v (.slice none 0 0) => N.th fun _ => D.ptr k = false ∧ D.len k = 0 ∧ D.wf k
    | .im k0 => N.th fun _ => Eqv D k0 k
    | _ => False)
  | y => x = y
def leCs : List (C K) → List (C K) → Prop
  | [], [] => True
  | x :: r, y :: s => leC N D x y ∧ leCs r s
  | _, _ => False
def leB (x y : B K) : Prop :=
  match x, y with
  | .c x, .c y => leC N D x y
  | .g x, .g y => leCs N D x y
  | _, _ => False
def leBs : List (B K) → List (B K) → Prop
  | [], [] => True
  | x :: r, y :: s => leB N D x y ∧ leBs r s
  | _, _ => False
def leA (x y : A K) : Prop :=
  match y with
  | .top => True
  | .b y => (match x with | .b x => leB N D x y | _ => False)
  | .u y => (match x with | .u x => leBs N D x y | _ => False)
def leSl (st : St K) : List (Nat × A K) → Prop
  | [] => True
  | (t, y) :: r => (match lk st.sl t with | some x => leA N D x y | none => False) ∧ leSl st r
/-- The same cells of a row or an array, told in another way. -/
def EqR (a b : K) : Prop := a = b ∨ (D.ptr b = false ∧ D.wf b ∧ D.sz a = D.sz b ∧ D.len a = D.len b ∧ D.flat a = D.flat b)
def leHp (st : St K) : List (Nat × Ob K) → Prop
  | [] => True
  | (t, .box T y) :: r => (match lk st.hp t with | some (.box T' x) => T' = T ∧ leCs N D x y | _ => False) ∧ leHp st r
  | (t, .row e k) :: r => (match lk st.hp t with | some (.row e' k') => e' = e ∧ N.th fun _ => EqR D k' k | _ => False) ∧ leHp st r
  | (t, .arr e k) :: r => (match lk st.hp t with | some (.arr e' k') => e' = e ∧ N.th fun _ => EqR D k' k | _ => False) ∧ leHp st r
/-- All references in it name objects that it holds. -/
def inHp (hp : List (Nat × Ob K)) (x : C K) : Bool :=
  match x with
  | .p i _ => (lk hp i).isSome
  | .ifp _ i _ => (lk hp i).isSome
  | .row i => (lk hp i).isSome
  | .pr i _ _ _ => (lk hp i).isSome
  | _ => true
def inHps (hp : List (Nat × Ob K)) : List (C K) → Bool
  | [] => true
  | x :: r => inHp hp x && inHps hp r
def inHpB (hp : List (Nat × Ob K)) : B K → Bool
  | .c x => inHp hp x
  | .g xs => inHps hp xs
def inHpBs (hp : List (Nat × Ob K)) : List (B K) → Bool
  | [] => true
  | x :: r => inHpB hp x && inHpBs hp r
def inHpA (hp : List (Nat × Ob K)) : A K → Bool
  | .b x => inHpB hp x
  | .u xs => inHpBs hp xs
  | .top => true
def inSl (hp : List (Nat × Ob K)) : List (Nat × A K) → Bool
  | [] => true
  | (_, x) :: r => inHpA hp x && inSl hp r
def inOb (hp : List (Nat × Ob K)) : List (Nat × Ob K) → Bool
  | [] => true
  | (_, .box _ xs) :: r => inHps hp xs && inOb hp r
  | _ :: r => inOb hp r
structure Le (st st' : St K) : Prop where
  sl : leSl N D st st'.sl
  hp : leHp N D st st'.hp
  inS : inSl st'.hp st'.sl = true
  inO : inOb st'.hp st'.hp = true

def frzb (st : St K) (x : O) (q : St K → Prop) : Prop :=
  match ev st x with
  | .b (.c (.p i 0)) => (match lk st.hp i with
    | some (.box T cs) => (match D.ofBox T cs, allClo cs with
      | some k, true => (N.th fun _ => D.wf k) ∧ q (st.sub i (gC i k))
      | _, _ => False)
    | _ => False)
  | _ => False

def St.knowO (st : St K) (c : O) (b : Bool) : St K := match c with | .t n => st.know n b | _ => st
def run : S → St K → (Ex → St K → Prop) → Prop
  | .ops l, st, q => steps N D R l st (q .nm)
  | .any m l, st, q => anys N D R m l st (q .nm)
  | .seq a b, st, q => run a st fun e st' => match e with | .nm => run b st' q | .ret => q .ret st' | .exit i => q (.exit i) st'
  | .cond c t e, st, q => match ev st c with
    | .b (.c (.v (.bool b))) => (match b with | true => run t (st.knowO c true) q | false => run e (st.knowO c false) q)
    | _ => False
  | .block id s, st, q => run s st fun e st' => match e with
    | .nm => q .nm st'
    | .ret => q .ret st'
    | .exit i => (match eqn i id with | true => q .nm st' | false => q (.exit i) st')
  | .loop s, st, q => ∃ (ι : Type) (J : ι → Prop) (inv : ι → St K) (μ : ι → Nat) (i0 : ι), J i0 ∧ Le N D st (inv i0) ∧ ∀ i, J i → run s (inv i) fun e st' => match e with
    | .nm => ∃ j, J j ∧ μ j < μ i ∧ Le N D st' (inv j)
    | .ret => q .ret st'
    | .exit n => q (.exit n) st'
  | .exit id, st, q => q (.exit id) st
  | .ret, st, q => q .ret st
  | .skip, st, q => q .nm st
  | .frz x s, st, q => run s (frzO st x) q
  | .frzb x s, st, q => frzb N D st x fun st' => run s st' q
  | .nil t d e s, st, q => nilRow N D st t d e fun st' => run s st' q
  | .nilb x j d e s, st, q => nilB N D st x j d e fun st' => run s st' q
end

/-- What stands for no code. -/
inductive Ghost (nt : Nat) : S → Prop
  | skip : Ghost nt .skip
  | frz {x s} : Ghost nt s → Ghost nt (.frz x s)
  | frzb {x s} : Ghost nt s → Ghost nt (.frzb x s)
  | nil {t d e s} : t < nt → d < nt → Ghost nt s → Ghost nt (.nil t d e s)
  | nilb {x j d e s} : d < nt → Ghost nt s → Ghost nt (.nilb x j d e s)

inductive CmpS (P : Program) (nt : Nat) : Code → S → Prop
  | ops {id ops l} : CmpOs P nt ops ops.toList l → CmpS P nt (.region id ops false) (.ops l)
  | any {id ops l m bit fl} : CmpOs P nt ops ops.toList l → AnyOk ops l m bit fl → CmpS P nt (.region id ops true) (.any m l)
  | seq {a b a' b'} : CmpS P nt a a' → CmpS P nt b b' → CmpS P nt (.seq a b) (.seq a' b')
  | cond {c c' t e t' e'} : CO c c' → CmpS P nt t t' → CmpS P nt e e' → CmpS P nt (.cond c t e) (.cond c' t' e')
  | block {id c s} : CmpS P nt c s → CmpS P nt (.block id c) (.block id s)
  | loop {c s} : CmpS P nt c s → CmpS P nt (.loop c) (.loop s)
  | exit {id} : CmpS P nt (.exit id) (.exit id)
  | ret : CmpS P nt .ret .ret
  | skip : CmpS P nt .skip .skip
  | frz {c x s} : CmpS P nt c s → CmpS P nt c (.frz x s)
  | frzb {c x s} : CmpS P nt c s → CmpS P nt c (.frzb x s)
  | nil {c t d e s} : t < nt → d < nt → CmpS P nt c s → CmpS P nt c (.nil t d e s)
  | nilb {c x j d e s} : d < nt → CmpS P nt c s → CmpS P nt c (.nilb x j d e s)
  | post {c s g} : CmpS P nt c s → Ghost nt g → CmpS P nt c (.seq s g)

section
variable {K : Type} {N : Hide} {P : Program} {D : Dx K} {R : List (Nat × Sp K)} {mb : Bw} {okc : Nat → Prop} {w0 w : World} {nt : Nat} {val : Nat → Option Value} {st st' : St K} {a : Act} {Q : Exit → Act → World → Prop}

theorem leC_rel {D : Dom K} {ok : Nat → Prop} {x y : C K} {u : Value} {D' : Dx K} (hD : D'.toDom = D) (h : leC N D' x y) (hr : Rc D val ok w x u) : Rc D val ok w y u := by
  subst hD
  unfold leC at h
  split at h
  · exact ⟨0, Rc_one _ hr⟩
  · rename_i k
    split at h
    · obtain ⟨h1, h2, h3⟩ := thp h
      obtain ⟨n, hr⟩ := hr
      have hu : u = .slice none 0 0 := by cases n <;> exact hr.1
      refine ⟨1, h3, ?_, .inl h2⟩
      rw [h1, hu, h2]
      exact ⟨none, 0, rfl, Nat.le_refl _, by simp [maxLen]⟩
    · rename_i k0
      rcases thp h with rfl | ⟨h1, h2, h3, h4, h5⟩
      · exact hr
      · obtain ⟨n, hr⟩ := hr
        cases n with
        | zero => exact hr.elim
        | succ n =>
          obtain ⟨_, hr2, hr3⟩ := hr
          refine ⟨n + 1, h5, ?_, ?_⟩
          · rw [h1] at hr2; rw [h2, ← h3]; exact hr2
          · rw [← h3, ← h4]; exact hr3
    · exact h.elim
  · rw [h] at hr; exact hr
theorem leCs_rel {ok : Nat → Prop} : ∀ {xs ys : List (C K)} {us : List Value}, leCs N D xs ys → Rs D.toDom val ok w xs us → Rs D.toDom val ok w ys us
  | [], [], _, _, h => h
  | x :: xs, y :: ys, us, hl, h => by
    obtain ⟨h1, h2⟩ := hl
    cases us with
    | nil => have := h.1; simp at this
    | cons u us =>
      obtain ⟨u', h3, h4⟩ := h.2 0 x rfl
      simp at h3; subst h3
      exact Rs.cons _ (leC_rel rfl h1 h4) (leCs_rel h2 ⟨by have := h.1; simpa using this, fun j x hx => by simpa using h.2 (j + 1) x (by simpa using hx)⟩)
  | [], _ :: _, _, h, _ => h.elim
  | _ :: _, [], _, h, _ => h.elim
theorem leB_rel {ok : Nat → Prop} {x y : B K} {u : Value} (h : leB N D x y) (hr : RB D.toDom val ok w x u) : RB D.toDom val ok w y u := by
  cases x <;> cases y <;> simp only [leB] at h
  · exact leC_rel rfl h hr
  · obtain ⟨us, rfl, hr⟩ := hr; exact ⟨us, rfl, leCs_rel h hr⟩
theorem leBs_rel {ok : Nat → Prop} : ∀ {xs ys : List (B K)} {us : List Value}, leBs N D xs ys → xs.length = us.length → (∀ (j : Nat) (x : B K), xs[j]? = some x → ∃ y, us[j]? = some y ∧ RB D.toDom val ok w x y) →
    ys.length = us.length ∧ ∀ (j : Nat) (x : B K), ys[j]? = some x → ∃ y, us[j]? = some y ∧ RB D.toDom val ok w x y
  | [], [], us, _, hl, h => ⟨hl, h⟩
  | x :: xs, y :: ys, us, hle, hl, h => by
    obtain ⟨h1, h2⟩ := hle
    cases us with
    | nil => simp at hl
    | cons u us =>
      obtain ⟨i1, i2⟩ := leBs_rel h2 (us := us) (by simpa using hl) fun j x hx => by simpa using h (j + 1) x (by simpa using hx)
      refine ⟨by simp [i1], fun j z hz => ?_⟩
      cases j with
      | zero =>
        simp at hz; subst hz
        obtain ⟨u', h3, h4⟩ := h 0 x rfl
        simp at h3; subst h3
        exact ⟨u, rfl, leB_rel h1 h4⟩
      | succ j => simpa using i2 j z (by simpa using hz)
  | [], _ :: _, _, h, _, _ => h.elim
  | _ :: _, [], _, h, _, _ => h.elim
theorem leA_rel {ok : Nat → Prop} {x y : A K} {u : Value} (h : leA N D x y) (hr : RA D.toDom val ok w x u) : RA D.toDom val ok w y u := by
  cases y with
  | top => trivial
  | b y =>
    cases x with
    | b x => exact leB_rel h hr
    | u x => exact h.elim
    | top => exact h.elim
  | u y =>
    cases x with
    | u x => obtain ⟨us, rfl, h1, h2⟩ := hr; obtain ⟨h3, h4⟩ := leBs_rel h h1 h2; exact ⟨us, rfl, h3, h4⟩
    | b x => exact h.elim
    | top => exact h.elim

theorem leSl_get {st : St K} : ∀ {l : List (Nat × A K)}, leSl N D st l → ∀ {t : Nat} {y : A K}, lk l t = some y → ∃ x, lk st.sl t = some x ∧ leA N D x y
  | [], _, t, y, h => by simp [lk] at h
  | (t0, y0) :: r, h, t, y, hl => by
    obtain ⟨h1, h2⟩ := h
    by_cases ht : t = t0
    · subst ht
      rw [lk_cons_same] at hl; injection hl with hl; subst hl
      cases hx : lk st.sl t with
      | some x => rw [hx] at h1; exact ⟨x, rfl, h1⟩
      | none => rw [hx] at h1; exact h1.elim
    · rw [lk_cons_other ht] at hl; exact leSl_get h2 hl
theorem leHp_get {st : St K} : ∀ {l : List (Nat × Ob K)}, leHp N D st l → ∀ {t : Nat} {y : Ob K}, lk l t = some y → ∃ x, lk st.hp t = some x ∧ (x = y ∨ (∃ T xs ys, x = .box T xs ∧ y = .box T ys ∧ leCs N D xs ys) ∨ (∃ e a b, x = .row e a ∧ y = .row e b ∧ EqR D a b) ∨ ∃ e a b, x = .arr e a ∧ y = .arr e b ∧ EqR D a b)
  | [], _, t, y, h => by simp [lk] at h
  | (t0, .box T ys) :: r, h, t, y, hl => by
    obtain ⟨h1, h2⟩ := h
    by_cases ht : t = t0
    · subst ht
      rw [lk_cons_same] at hl; injection hl with hl; subst hl
      split at h1
      · rename_i T' xs hx
        obtain ⟨rfl, h1⟩ := h1
        exact ⟨_, hx, .inr (.inl ⟨_, _, _, rfl, rfl, h1⟩)⟩
      · exact h1.elim
    · rw [lk_cons_other ht] at hl; exact leHp_get h2 hl
  | (t0, .row e k) :: r, h, t, y, hl => by
    obtain ⟨h1, h2⟩ := h
    by_cases ht : t = t0
    · subst ht
      rw [lk_cons_same] at hl; injection hl with hl; subst hl
      split at h1
      · rename_i e' k' hx
        obtain ⟨rfl, h1⟩ := h1
        exact ⟨_, hx, .inr (.inr (.inl ⟨_, _, _, rfl, rfl, thp h1⟩))⟩
      · exact h1.elim
    · rw [lk_cons_other ht] at hl; exact leHp_get h2 hl
  | (t0, .arr e k) :: r, h, t, y, hl => by
    obtain ⟨h1, h2⟩ := h
    by_cases ht : t = t0
    · subst ht
      rw [lk_cons_same] at hl; injection hl with hl; subst hl
      split at h1
      · rename_i e' k' hx
        obtain ⟨rfl, h1⟩ := h1
        exact ⟨_, hx, .inr (.inr (.inr ⟨_, _, _, rfl, rfl, thp h1⟩))⟩
      · exact h1.elim
    · rw [lk_cons_other ht] at hl; exact leHp_get h2 hl

theorem inHp_has {hp : List (Nat × Ob K)} {x : C K} (h : inHp hp x = true) {i : Nat} (hi : x.has i = true) : lk hp i ≠ none := by
  cases x <;> simp [C.has] at hi <;> subst hi <;> (simp only [inHp] at h; intro e; rw [e] at h; cases h)
theorem inHps_has {hp : List (Nat × Ob K)} : ∀ {xs : List (C K)}, inHps hp xs = true → ∀ {i : Nat}, xs.any (·.has i) = true → lk hp i ≠ none
  | [], _, i, hi => by simp at hi
  | x :: r, h, i, hi => by
    simp only [inHps, Bool.and_eq_true] at h
    simp only [List.any_cons, Bool.or_eq_true] at hi
    rcases hi with hi | hi
    · exact inHp_has h.1 hi
    · exact inHps_has h.2 hi
theorem inHpB_has {hp : List (Nat × Ob K)} {x : B K} (h : inHpB hp x = true) {i : Nat} (hi : x.has i = true) : lk hp i ≠ none := by
  cases x with
  | c x => exact inHp_has h hi
  | g xs => exact inHps_has h hi
theorem inHpBs_has {hp : List (Nat × Ob K)} : ∀ {xs : List (B K)}, inHpBs hp xs = true → ∀ {i : Nat}, xs.any (·.has i) = true → lk hp i ≠ none
  | [], _, i, hi => by simp at hi
  | x :: r, h, i, hi => by
    simp only [inHpBs, Bool.and_eq_true] at h
    simp only [List.any_cons, Bool.or_eq_true] at hi
    rcases hi with hi | hi
    · exact inHpB_has h.1 hi
    · exact inHpBs_has h.2 hi
theorem inHpA_has {hp : List (Nat × Ob K)} {x : A K} (h : inHpA hp x = true) {i : Nat} (hi : x.has i = true) : lk hp i ≠ none := by
  cases x with
  | b x => exact inHpB_has h hi
  | u xs => exact inHpBs_has h hi
  | top => cases hi
theorem inSl_get {hp : List (Nat × Ob K)} : ∀ {l : List (Nat × A K)}, inSl hp l = true → ∀ {t : Nat} {y : A K}, lk l t = some y → inHpA hp y = true
  | [], _, t, y, h => by simp [lk] at h
  | (t0, y0) :: r, h, t, y, hl => by
    simp only [inSl, Bool.and_eq_true] at h
    by_cases ht : t = t0
    · subst ht
      rw [lk_cons_same] at hl; injection hl with hl; subst hl; exact h.1
    · rw [lk_cons_other ht] at hl; exact inSl_get h.2 hl
theorem inOb_get {hp : List (Nat × Ob K)} : ∀ {l : List (Nat × Ob K)}, inOb hp l = true → ∀ {t : Nat} {T : TypeId} {xs : List (C K)}, lk l t = some (.box T xs) → inHps hp xs = true
  | [], _, t, T, xs, h => by simp [lk] at h
  | (t0, .box T0 ys) :: r, h, t, T, xs, hl => by
    simp only [inOb, Bool.and_eq_true] at h
    by_cases ht : t = t0
    · subst ht
      rw [lk_cons_same] at hl; injection hl with hl; injection hl with _ hl; subst hl; exact h.1
    · rw [lk_cons_other ht] at hl; exact inOb_get h.2 hl
  | (t0, .row e k) :: r, h, t, T, xs, hl => by
    by_cases ht : t = t0
    · subst ht; rw [lk_cons_same] at hl; cases hl
    · rw [lk_cons_other ht] at hl; exact inOb_get (l := r) (by simpa [inOb] using h) hl
  | (t0, .arr e k) :: r, h, t, T, xs, hl => by
    by_cases ht : t = t0
    · subst ht; rw [lk_cons_same] at hl; cases hl
    · rw [lk_cons_other ht] at hl; exact inOb_get (l := r) (by simpa [inOb] using h) hl

/-- Something may be forgotten. -/
theorem Rst.le (h : Rst D.toDom mb okc w0 nt val st a w) (hl : Le N D st st') : ∃ val', Rst D.toDom mb okc w0 nt val' st' a w := by
  let val' : Nat → Option Value := fun i => match lk st'.hp i with | some _ => val i | none => none
  have hv1 : ∀ i ob, lk st'.hp i = some ob → val' i = val i := fun i ob hi => by simp only [val', hi]
  have hv0 : ∀ i, lk st'.hp i ≠ none → val' i = val i := fun i hi => by
    cases hx : lk st'.hp i with
    | none => exact absurd hx hi
    | some ob => exact hv1 i ob hx
  have hm : Mv (okS w0.heap.size okc st.hp val) (okS w0.heap.size okc st'.hp val') w w := by
    refine ⟨fun b hlt hok => ⟨⟨hok.1, fun i ob v hi hv => ?_⟩, rfl⟩, Nat.le_refl _⟩
    obtain ⟨x, hx, _⟩ := leHp_get hl.hp hi
    exact hok.2 i x v hx (by rw [← hv1 i ob hi]; exact hv)
  refine ⟨val', h.keep, h.defs, h.size, fun t y hy => ?_, fun i ob hi => ?_, fun i hi => by simp only [val', hi], fun i j ob ob' v v' b hi hj hv hv' hb hb' => ?_, h.bok, fun i ob v hp hi => ?_, h.pinlt, h.ntle⟩
  · have hin := inSl_get hl.inS hy
    obtain ⟨x, hx, hle⟩ := leSl_get hl.sl hy
    obtain ⟨u, h1, h2⟩ := h.sl t x hx
    exact ⟨u, h1, (leA_rel hle h2).mv D.toDom hm fun i hi => hv0 i (inHpA_has hin hi)⟩
  · obtain ⟨x, hx, hle⟩ := leHp_get hl.hp hi
    obtain ⟨v, h1, h2, h3⟩ := h.hp i x hx
    refine ⟨v, by rw [hv1 i ob hi]; exact h1, ?_, h3⟩
    rcases hle with rfl | ⟨T, xs, ys, rfl, rfl, hle⟩ | ⟨e, k1, k2, rfl, rfl, hle⟩ | ⟨e, k1, k2, rfl, rfl, hle⟩
    · cases x with
      | box T xs =>
        obtain ⟨b, us, rfl, h4, h5⟩ := h2
        exact ⟨b, us, rfl, h4, h5.mv D.toDom hm fun i' hi' => hv0 i' (inHps_has (inOb_get hl.inO hi) hi')⟩
      | row e k => obtain ⟨h4, h5, xs, h6, h7⟩ := h2; exact ⟨h4, h5, xs, h6, h7.mv D.toDom hm fun _ _ => rfl⟩
      | arr e k => obtain ⟨h4, h5, b, us, rfl, h6, h7⟩ := h2; exact ⟨h4, h5, b, us, rfl, h6, h7.mv D.toDom hm fun _ _ => rfl⟩
    · obtain ⟨b, us, rfl, h4, h5⟩ := h2
      exact ⟨b, us, rfl, h4, (leCs_rel hle h5).mv D.toDom hm fun i' hi' => hv0 i' (inHps_has (inOb_get hl.inO hi) hi')⟩
    · obtain ⟨h4, h5, xs, h6, h7⟩ := h2
      rcases hle with rfl | ⟨g1, g2, g3, g4, g5⟩
      · exact ⟨h4, h5, xs, h6, h7.mv D.toDom hm fun _ _ => rfl⟩
      · exact ⟨g1, g2, xs, by rw [← g3, ← g4]; exact h6, by rw [← g5]; exact h7.mv D.toDom hm fun _ _ => rfl⟩
    · obtain ⟨h4, h5, b, us, rfl, h6, h7⟩ := h2
      rcases hle with rfl | ⟨g1, g2, g3, g4, g5⟩
      · exact ⟨h4, h5, b, us, rfl, h6, h7.mv D.toDom hm fun _ _ => rfl⟩
      · exact ⟨g1, g2, b, us, rfl, h6, by rw [← g5]; exact h7.mv D.toDom hm fun _ _ => rfl⟩
  · obtain ⟨x, hx, _⟩ := leHp_get hl.hp hi
    obtain ⟨y, hy, _⟩ := leHp_get hl.hp hj
    exact h.dj i j x y v v' b hx hy (by rw [← hv1 i ob hi]; exact hv) (by rw [← hv1 j ob' hj]; exact hv') hb hb'
  · obtain ⟨x, hx, hle⟩ := leHp_get hl.hp hi
    rw [hv1 i ob hi]
    exact h.pin i x v hp hx
end
end Go.Sy
