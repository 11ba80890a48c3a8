/- How a state moves: a slot is put, a box or a row is made, written, frozen or dropped. -/
import Derived.Test.YtfopdmoomdankaaSyA
set_option linter.unusedVariables false
set_option linter.unusedSimpArgs false
namespace Go.Sy
open Go

section
variable {K : Type}

def B.map (σ : C K → C K) : B K → B K
  | .c x => .c (σ x)
  | .g cs => .g (cs.map σ)
def A.map (σ : C K → C K) : A K → A K
  | .b x => .b (x.map σ)
  | .u xs => .u (xs.map (B.map σ))
  | .top => .top
def Ob.map (σ : C K → C K) : Ob K → Ob K
  | .box t cs => .box t (cs.map σ)
  | .row e k => .row e k
  | .arr t k => .arr t k
def mapS {α : Type} (f : α → α) : List (Nat × α) → List (Nat × α)
  | [] => []
  | (i, x) :: r => (i, f x) :: mapS f r
def rem {α : Type} (i : Nat) : List (Nat × α) → List (Nat × α)
  | [] => []
  | (j, x) :: r => match eqn j i with | true => rem i r | false => (j, x) :: rem i r

theorem lk_mapS {α : Type} (f : α → α) (t : Nat) : ∀ l : List (Nat × α), lk (mapS f l) t = (lk l t).map f
  | [] => rfl
  | (i, x) :: r => by
    simp only [mapS, lk]
    cases h : eqn i t
    · exact lk_mapS f t r
    · rfl
theorem lk_rem_same {α : Type} (i : Nat) : ∀ l : List (Nat × α), lk (rem i l) i = none
  | [] => rfl
  | (j, x) :: r => by
    simp only [rem]
    cases h : eqn j i
    · simp only [lk, h]; exact lk_rem_same i r
    · exact lk_rem_same i r
theorem lk_rem_other {α : Type} {i t : Nat} (hne : t ≠ i) : ∀ l : List (Nat × α), lk (rem i l) t = lk l t
  | [] => rfl
  | (j, x) :: r => by
    simp only [rem]
    cases h : eqn j i
    · simp only [lk]
      rw [lk_rem_other hne r]
    · have hj : j = i := eqn_true h
      have : eqn j t = false := by
        cases h' : eqn j t
        · rfl
        · exact absurd ((eqn_true h').symm.trans hj) hne
      simp only [lk, this]
      exact lk_rem_other hne r
theorem lk_cons_same {α : Type} (i : Nat) (x : α) (l : List (Nat × α)) : lk ((i, x) :: l) i = some x := by
  simp [lk]
theorem lk_cons_other {α : Type} {i t : Nat} (h : t ≠ i) (x : α) (l : List (Nat × α)) : lk ((i, x) :: l) t = lk l t := by
  have : eqn i t = false := by
    cases h' : eqn i t
    · rfl
    · exact absurd (eqn_true h').symm h
  simp [lk, this]

def St.put (st : St K) (d : Option Nat) (x : A K) : St K :=
  match d with
  | some d => { sl := (d, x) :: st.sl, hp := st.hp }
  | none => st

/-- The references to i are turned by σ, and the object i is gone. -/
def St.sub (st : St K) (i : Nat) (σ : C K → C K) : St K := { sl := mapS (A.map σ) st.sl, hp := mapS (Ob.map σ) (rem i st.hp) }
def kC (i : Nat) (x : C K) : C K := match x.has i with | true => .top | false => x
def fC (i : Nat) (k : K) : C K → C K
  | .row j => match eqn j i with | true => .im k | false => .row j
  | x => kC i x
def gC (i : Nat) (k : K) : C K → C K
  | .p j o => match eqn j i with | true => (match o with | 0 => .im k | o + 1 => .top) | false => .p j o
  | x => kC i x

variable (D : Dom K)
section
variable {ok ok' : Nat → Prop} {w w' : World} {val val' : Nat → Option Value}

theorem Rs.map {σ : C K → C K} (hσ : ∀ x y, Rc D val ok w x y → Rc D val' ok' w' (σ x) y) {xs : List (C K)} {ys : List Value} (h : Rs D val ok w xs ys) : Rs D val' ok' w' (xs.map σ) ys := by
  refine ⟨by simp [h.1], fun j x hx => ?_⟩
  rw [List.getElem?_map] at hx
  obtain ⟨x0, h0, rfl⟩ := Option.map_eq_some_iff.1 hx
  obtain ⟨y, hy, hr⟩ := h.2 j x0 h0
  exact ⟨y, hy, hσ _ _ hr⟩
theorem RB.map {σ : C K → C K} (hσ : ∀ x y, Rc D val ok w x y → Rc D val' ok' w' (σ x) y) {x : B K} {y : Value} (h : RB D val ok w x y) : RB D val' ok' w' (x.map σ) y := by
  cases x with
  | c x => exact hσ _ _ h
  | g cs => obtain ⟨us, rfl, h⟩ := h; exact ⟨us, rfl, h.map D hσ⟩
theorem RA.map {σ : C K → C K} (hσ : ∀ x y, Rc D val ok w x y → Rc D val' ok' w' (σ x) y) {x : A K} {y : Value} (h : RA D val ok w x y) : RA D val' ok' w' (x.map σ) y := by
  cases x with
  | b x => exact RB.map D hσ h
  | top => trivial
  | u xs =>
    obtain ⟨us, rfl, hl, h⟩ := h
    refine ⟨us, rfl, by simpa using hl, fun j x hx => ?_⟩
    rw [List.getElem?_map] at hx
    obtain ⟨x0, h0, rfl⟩ := Option.map_eq_some_iff.1 hx
    obtain ⟨y, hy, hr⟩ := h j x0 h0
    exact ⟨y, hy, hr.map D hσ⟩

theorem ownsRow_of_block {base : Nat} {e : TypeId} {s n : Nat} {v : Value} {xs : List Value} (h : w.ownsRow base e s v n xs) (hb : ∀ b, vblk v = some b → w'.heap[b]? = w.heap[b]?) : w'.ownsRow base e s v n xs := by
  refine ⟨h.1, ?_⟩
  rcases h.2 with h0 | ⟨g, cap, cur, rfl, h1, h2, h3⟩
  · exact .inl h0
  · exact .inr ⟨g, cap, cur, rfl, h1, (hb g rfl).trans h2, h3⟩

theorem obRel.map {σ : C K → C K} (hm : Mv ok ok' w w') (hσ : ∀ x y, Rc D val ok w x y → Rc D val' ok' w' (σ x) y) {ob : Ob K} {v : Value} (h : obRel D val ok w ob v)
    (hb : ∀ b, vblk v = some b → w'.heap[b]? = w.heap[b]?) : obRel D val' ok' w' (ob.map σ) v := by
  cases ob with
  | box t cs =>
    obtain ⟨b, us, rfl, h1, h2⟩ := h
    exact ⟨b, us, rfl, (hb b rfl).trans h1, h2.map D hσ⟩
  | row e k =>
    obtain ⟨h1, h2, xs, h3, h4⟩ := h
    exact ⟨h1, h2, xs, ownsRow_of_block h3 hb, h4.mv D hm fun _ _ => rfl⟩
  | arr t k =>
    obtain ⟨h1, h2, b, us, rfl, h3, h4⟩ := h
    exact ⟨h1, h2, b, us, rfl, (hb b rfl).trans h3, h4.mv D hm fun _ _ => rfl⟩
theorem B.map_id (x : B K) : x.map id = x := by cases x <;> simp [B.map]
theorem A.map_id (x : A K) : x.map id = x := by
  cases x with
  | b x => simp [A.map, B.map_id]
  | top => rfl
  | u xs =>
    have : (B.map id : B K → B K) = id := funext B.map_id
    simp [A.map, this]
theorem Ob.map_id (ob : Ob K) : ob.map id = ob := by cases ob <;> simp [Ob.map]
theorem obRel.mv (hm : Mv ok ok' w w') {ob : Ob K} {v : Value} (h : obRel D val ok w ob v) (hv : ∀ i v, val i = some v → val' i = some v)
    (hb : ∀ b, vblk v = some b → w'.heap[b]? = w.heap[b]?) : obRel D val' ok' w' ob v := by
  have hσ : ∀ x y, Rc D val ok w x y → Rc D val' ok' w' (id x) y := by
    intro x y hxy
    refine hxy.mv D hm fun i hi => ?_
    obtain ⟨n, hn⟩ := hxy
    cases x <;> simp [C.has] at hi <;> subst hi
    · cases n <;> (obtain ⟨b, h1, _⟩ := hn; rw [h1]; exact hv _ _ h1)
    · cases n <;> (obtain ⟨b, h1, _⟩ := hn; rw [h1]; exact hv _ _ h1)
    · cases n <;> (obtain ⟨h1, _⟩ := hn; rw [h1]; exact hv _ _ h1)
    · cases n <;> (obtain ⟨v, b, h1, _⟩ := hn; rw [h1]; exact hv _ _ h1)
  have := obRel.map D (σ := id) hm hσ h hb
  rwa [Ob.map_id] at this

/-- References name what lives. -/
theorem Rc.live {x : C K} {y : Value} (h : Rc D val ok w x y) {i : Nat} (hi : x.has i = true) : ∃ v, val i = some v := by
  obtain ⟨n, hn⟩ := h
  cases x <;> simp [C.has] at hi <;> subst hi
  · cases n <;> (obtain ⟨b, h1, _⟩ := hn; exact ⟨_, h1⟩)
  · cases n <;> (obtain ⟨b, h1, _⟩ := hn; exact ⟨_, h1⟩)
  · cases n <;> (obtain ⟨h1, _⟩ := hn; exact ⟨_, h1⟩)
  · cases n <;> (obtain ⟨v, b, h1, _⟩ := hn; exact ⟨_, h1⟩)
theorem Rc.mv' {x : C K} {y : Value} (h : Rc D val ok w x y) (hm : Mv ok ok' w w') (hv : ∀ i v, val i = some v → val' i = some v) : Rc D val' ok' w' x y :=
  h.mv D hm fun i hi => by obtain ⟨v, h1⟩ := h.live D hi; rw [h1]; exact hv _ _ h1
end

section
variable {mb : Bw} {okc : Nat → Prop} {w0 w w' : World} {nt : Nat} {val : Nat → Option Value} {st : St K} {a : Act}

theorem tmps_put {a : Act} {d : Nat} {y : Value} (t : Nat) : (a.put (some d) y).tmps[t]? = if d = t then (if t < a.tmps.size then some y else none) else a.tmps[t]? := by
  simp only [Act.put, Array.getElem?_setIfInBounds]
  by_cases h : d = t
  · subst h; rfl
  · rw [if_neg h, if_neg h]
theorem put_size {a : Act} {d : Option Nat} {y : Value} : (a.put d y).tmps.size = a.tmps.size := by cases d <;> simp [Act.put]
theorem put_defers {a : Act} {d : Option Nat} {y : Value} : (a.put d y).defers = a.defers := by cases d <;> rfl

theorem Rst.put (h : Rst D mb okc w0 nt val st a w) {x : A K} {y : Value} (hr : RA D val (okS w0.heap.size okc st.hp val) w x y) {d : Option Nat} (hd : ∀ t, d = some t → t < nt) :
    Rst D mb okc w0 nt val (st.put d x) (a.put d y) w := by
  cases d with
  | none => exact h
  | some d =>
    refine ⟨h.keep, by rw [put_defers]; exact h.defs, by rw [put_size]; exact h.size, fun t z hz => ?_, h.hp, h.vl, h.dj, h.bok, h.pin, h.pinlt, h.ntle⟩
    rw [tmps_put]
    by_cases htd : d = t
    · subst htd
      simp only [St.put] at hz
      rw [lk_cons_same] at hz
      injection hz with hz; subst hz
      exact ⟨y, by rw [if_pos rfl, if_pos (by rw [h.size]; exact hd _ rfl)], hr⟩
    · simp only [St.put] at hz
      rw [lk_cons_other (fun e => htd e.symm)] at hz
      rw [if_neg htd]
      exact h.sl t z hz

/-- All that lies there lies there still. -/
theorem Rst.world (h : Rst D mb okc w0 nt val st a w) (hb : Keep (fun _ => False) w w') : Rst D mb okc w0 nt val st a w' := by
  have hblk : ∀ b, b < w.heap.size → w'.heap[b]? = w.heap[b]? := fun b hlt => hb.block b hlt (fun f => f)
  have hm : Mv (okS w0.heap.size okc st.hp val) (okS w0.heap.size okc st.hp val) w w' := ⟨fun b hlt hok => ⟨hok, hblk b hlt⟩, hb.size⟩
  refine ⟨⟨hb.os.trans h.keep.os, hb.tape.trans h.keep.tape, hb.output.trans h.keep.output, Nat.le_trans h.keep.size hb.size, fun b hlt hn => ?_⟩, h.defs, h.size, fun t x hx => ?_, fun i ob hi => ?_, h.vl, h.dj, h.bok, h.pin, h.pinlt, h.ntle⟩
  · exact (hblk b (Nat.lt_of_lt_of_le hlt h.keep.size)).trans (h.keep.block b hlt hn)
  · obtain ⟨y, h1, h2⟩ := h.sl t x hx
    exact ⟨y, h1, h2.mv D hm fun _ _ => rfl⟩
  · obtain ⟨v, h1, h2, h3⟩ := h.hp i ob hi
    exact ⟨v, h1, h2.mv D hm (fun _ _ h => h) (fun b hbv => hblk b (h3 b hbv).1), fun b hbv => ⟨Nat.lt_of_lt_of_le (h3 b hbv).1 hb.size, (h3 b hbv).2⟩⟩

def upd (val : Nat → Option Value) (i : Nat) (v : Option Value) : Nat → Option Value := fun j => if j = i then v else val j
theorem upd_same (i : Nat) (v : Option Value) : upd val i v i = v := by simp [upd]
theorem upd_other {i j : Nat} (h : j ≠ i) (v : Option Value) : upd val i v j = val j := by simp [upd, h]

theorem lk_sub_hp {i j : Nat} {σ : C K → C K} {ob : Ob K} (h : lk (mapS (Ob.map σ) (rem i st.hp)) j = some ob) : j ≠ i ∧ ∃ ob0, lk st.hp j = some ob0 ∧ ob = ob0.map σ := by
  rw [lk_mapS] at h
  obtain ⟨ob0, h0, rfl⟩ := Option.map_eq_some_iff.1 h
  by_cases hji : j = i
  · subst hji; rw [lk_rem_same] at h0; cases h0
  · rw [lk_rem_other hji] at h0; exact ⟨hji, ob0, h0, rfl⟩

theorem isR_map {σ : C K → C K} {ob : Ob K} : (ob.map σ).isR = ob.isR := by cases ob <;> rfl

/-- An object is let go: its references are turned by σ. -/
theorem Rst.sub (h : Rst D mb okc w0 nt val st a w) (i : Nat) (σ : C K → C K)
    (hσ : ∀ x y, Rc D val (okS w0.heap.size okc st.hp val) w x y → Rc D (upd val i none) (okS w0.heap.size okc (st.sub i σ).hp (upd val i none)) w (σ x) y) :
    Rst D mb okc w0 nt (upd val i none) (st.sub i σ) a w := by
  have hm : Mv (okS w0.heap.size okc st.hp val) (okS w0.heap.size okc (st.sub i σ).hp (upd val i none)) w w := by
    refine ⟨fun b hlt hok => ⟨⟨hok.1, fun j ob v hj hv => ?_⟩, rfl⟩, Nat.le_refl _⟩
    obtain ⟨hji, ob0, h0, rfl⟩ := lk_sub_hp hj
    rw [upd_other hji] at hv
    exact hok.2 j ob0 v h0 hv
  refine ⟨h.keep, h.defs, h.size, fun t x hx => ?_, fun j ob hj => ?_, fun j hj => ?_, fun j l ob ob' v v' b hj hl hv hv' hb hb' => ?_, h.bok, fun j ob v hp hj => ?_, h.pinlt, h.ntle⟩
  · simp only [St.sub] at hx
    rw [lk_mapS] at hx
    obtain ⟨x0, h0, rfl⟩ := Option.map_eq_some_iff.1 hx
    obtain ⟨y, h1, h2⟩ := h.sl t x0 h0
    exact ⟨y, h1, h2.map D hσ⟩
  · obtain ⟨hji, ob0, h0, rfl⟩ := lk_sub_hp hj
    obtain ⟨v, h1, h2, h3⟩ := h.hp j ob0 h0
    exact ⟨v, by rw [upd_other hji]; exact h1, h2.map D hm hσ (fun _ _ => rfl), h3⟩
  · by_cases hji : j = i
    · subst hji; exact upd_same _ _
    · rw [upd_other hji]
      refine h.vl j ?_
      simp only [St.sub] at hj
      rw [lk_mapS, lk_rem_other hji] at hj
      simpa using hj
  · obtain ⟨hji, ob0, h0, rfl⟩ := lk_sub_hp hj
    obtain ⟨hli, ob1, h1, rfl⟩ := lk_sub_hp hl
    rw [upd_other hji] at hv
    rw [upd_other hli] at hv'
    exact h.dj j l ob0 ob1 v v' b h0 h1 hv hv' hb hb'
  · obtain ⟨hji, ob0, h0, rfl⟩ := lk_sub_hp hj
    rw [upd_other hji]
    exact h.pin j ob0 v hp h0

theorem has_ne {i j : Nat} {x : C K} (hx : x.has i = false) (hj : x.has j = true) : j ≠ i := fun e => by subst e; rw [hx] at hj; cases hj

theorem kC_rel {ok ok' : Nat → Prop} {i : Nat} (hm : Mv ok ok' w w') {x : C K} {y : Value} (h : Rc D val ok w x y) {v : Option Value} : Rc D (upd val i v) ok' w' (kC i x) y := by
  unfold kC
  cases hx : x.has i
  · exact h.mv D hm fun j hj => upd_other (has_ne hx hj) _
  · exact ⟨0, Rc_one D h⟩

theorem okS_sub {i : Nat} {σ : C K → C K} : Mv (okS w0.heap.size okc st.hp val) (okS w0.heap.size okc (st.sub i σ).hp (upd val i none)) w w := by
  refine ⟨fun b hlt hok => ⟨⟨hok.1, fun j ob v hj hv => ?_⟩, rfl⟩, Nat.le_refl _⟩
  obtain ⟨hji, ob0, h0, rfl⟩ := lk_sub_hp hj
  rw [upd_other hji] at hv
  exact hok.2 j ob0 v h0 hv

theorem Rst.drop (h : Rst D mb okc w0 nt val st a w) (i : Nat) : Rst D mb okc w0 nt (upd val i none) (st.sub i (kC i)) a w :=
  h.sub D i (kC i) fun x y hxy => kC_rel D (okS_sub (σ := kC i)) hxy

/-- One fuel for all cells. -/
theorem Rs.fuel {val : Nat → Option Value} {ok : Nat → Prop} {w : World} : ∀ {l : List (C K)} {ys : List Value}, Rs D val ok w l ys → ∃ N, ∀ (m : Nat) (x : C K), l[m]? = some x → ∃ y, ys[m]? = some y ∧ RC D ok w N val x y
  | [], ys, _ => ⟨0, fun m x hx => by simp at hx⟩
  | c :: l, ys, hys => by
    obtain ⟨y0, hy0, n0, hn0⟩ := hys.2 0 c rfl
    cases ys with
    | nil => simp at hy0
    | cons y1 ys =>
      simp at hy0; subst hy0
      obtain ⟨N, hN⟩ := Rs.fuel (l := l) (ys := ys) ⟨by have := hys.1; simpa using this, fun j x hx => by simpa using hys.2 (j + 1) x (by simpa using hx)⟩
      refine ⟨max n0 N, fun m x hx => ?_⟩
      have hw : ∀ b, b < w.heap.size → ok b → ok b ∧ w.heap[b]? = w.heap[b]? := fun b _ h => ⟨h, rfl⟩
      cases m with
      | zero => simp at hx; subst hx; exact ⟨y1, rfl, RC_mono D hw (Nat.le_refl _) _ _ _ _ _ _ (Nat.le_max_left _ _) (fun _ _ => rfl) hn0⟩
      | succ m =>
        obtain ⟨y, h1, h2⟩ := hN m x (by simpa using hx)
        exact ⟨y, by simpa using h1, RC_mono D hw (Nat.le_refl _) _ _ _ _ _ _ (Nat.le_max_right _ _) (fun _ _ => rfl) h2⟩

/-- A row is frozen. -/
theorem Rst.freeze_row (h : Rst D mb okc w0 nt val st a w) {i : Nat} {e : TypeId} {k : K} (hi : lk st.hp i = some (.row e k))
    (hbase : ∀ b v, val i = some v → vblk v = some b → b < w0.heap.size → okc b) : Rst D mb okc w0 nt (upd val i none) (st.sub i (fC i k)) a w := by
  refine h.sub D i (fC i k) fun x y hxy => ?_
  obtain ⟨v, hv, ⟨hp, hwf, xs, hown, hrs⟩, hlt⟩ := h.hp i _ hi
  have hm := okS_sub (K := K) (w0 := w0) (okc := okc) (st := st) (val := val) (w := w) (i := i) (σ := fC i k)
  cases x with
  | row j =>
    simp only [fC]
    cases hji : eqn j i
    · exact hxy.mv D hm fun l hl => upd_other (fun e => by subst e; simp [C.has] at hl; subst hl; simp at hji) _
    · have hji := eqn_true hji
      subst hji
      obtain ⟨n, hn⟩ := hxy
      have hy : val j = some y := by cases n <;> exact hn.1
      rw [hv] at hy
      injection hy with hy
      subst hy
      have hfuel := Rs.fuel D hrs
      obtain ⟨N, hN⟩ := hfuel
      refine ⟨N + 1, hwf, ?_, ?_⟩
      · rw [hp]
        rcases hown.2 with ⟨rfl, h0⟩ | ⟨g, cap, cur, rfl, _, hg, hnc, hcm, _⟩
        · exact ⟨none, 0, by rw [h0], by rw [h0]; exact Nat.le_refl _, by simp [maxLen]⟩
        · exact ⟨_, cap, rfl, hnc, hcm⟩
      · rcases hown.2 with ⟨rfl, h0⟩ | ⟨g, cap, cur, rfl, _, hg, hnc, hcm, hcs, htake⟩
        · exact .inl h0
        · refine .inr ⟨g, 0, rfl, ⟨fun hb => hbase g _ hv rfl hb, fun l ob v' hl hv' hbb => ?_⟩, (hlt g rfl).1, fun m x hx => ?_⟩
          · obtain ⟨hlj, ob0, h0, rfl⟩ := lk_sub_hp hl
            rw [upd_other hlj] at hv'
            exact hlj (h.dj l j ob0 _ v' _ g h0 hi hv' hv hbb rfl)
          · obtain ⟨y, h1, h2⟩ := hN m x hx
            refine ⟨y, ?_, RC_mono D hm.blk (Nat.le_refl _) _ _ _ _ _ _ (Nat.le_refl _) (fun _ _ => rfl) h2⟩
            have hc := hown.cells (g := g) rfl m y h1
            have ha : (⟨g, 0, none⟩ : Addr).add m = ⟨g, 0 + m, none⟩ := by unfold Addr.add; split <;> simp_all
            rwa [ha] at hc
  | _ => exact kC_rel D hm hxy

/-- A box is frozen: a pointer to known data. -/
theorem Rst.freeze_box (h : Rst D mb okc w0 nt val st a w) {i : Nat} {t : TypeId} {cs : List (C K)} {k : K} (hi : lk st.hp i = some (.box t cs))
    (hbase : ∀ b v, val i = some v → vblk v = some b → b < w0.heap.size → okc b) (hp : D.ptr k = true) (hwf : D.wf k) (hfl : D.flat k = cs) (hcl : ∀ x ∈ cs, ∀ j, x.has j = false) :
    Rst D mb okc w0 nt (upd val i none) (st.sub i (gC i k)) a w := by
  refine h.sub D i (gC i k) fun x y hxy => ?_
  obtain ⟨v, hv, ⟨g, us, rfl, hg, hrs⟩, hlt⟩ := h.hp i _ hi
  have hm := okS_sub (K := K) (w0 := w0) (okc := okc) (st := st) (val := val) (w := w) (i := i) (σ := gC i k)
  cases x with
  | p j o =>
    simp only [gC]
    cases hji : eqn j i
    · exact hxy.mv D hm fun l hl => upd_other (fun e => by subst e; simp [C.has] at hl; subst hl; simp at hji) _
    · have hji := eqn_true hji
      subst hji
      cases o with
      | succ o => exact ⟨0, Rc_one D hxy⟩
      | zero =>
        obtain ⟨n, hn⟩ := hxy
        have hy : y = .pointer (some ⟨g, 0, none⟩) := by cases n <;> (obtain ⟨b, h1, h2⟩ := hn; rw [hv] at h1; injection h1 with h1; injection h1 with h1; injection h1 with h1; injection h1 with h1; subst h1; exact h2)
        subst hy
        have hcl2 : Rs D (fun _ => none) (okS w0.heap.size okc st.hp val) w (D.flat k) us.toList := by
          rw [hfl]
          refine ⟨hrs.1, fun m x hx => ?_⟩
          obtain ⟨y, h1, h2⟩ := hrs.2 m x hx
          exact ⟨y, h1, h2.mv D (Mv.refl _ _) fun j hj => by rw [hcl x (List.mem_of_getElem? hx) j] at hj; cases hj⟩
        obtain ⟨N, hN⟩ := Rs.fuel D hcl2
        refine ⟨N + 1, hwf, by rw [hp]; exact ⟨_, rfl⟩, .inr ⟨g, 0, rfl, ⟨fun hb => hbase g _ hv rfl hb, fun l ob v' hl hv' hbb => ?_⟩, (hlt g rfl).1, fun m x hx => ?_⟩⟩
        · obtain ⟨hlj, ob0, h0, rfl⟩ := lk_sub_hp hl
          rw [upd_other hlj] at hv'
          exact hlj (h.dj l j ob0 _ v' _ g h0 hi hv' hv hbb rfl)
        · obtain ⟨y, h1, h2⟩ := hN m x hx
          refine ⟨y, ?_, RC_mono D hm.blk (Nat.le_refl _) _ _ _ _ _ _ (Nat.le_refl _) (fun _ _ => rfl) h2⟩
          rw [cell_of_row w g (0 + m) us t (0, 0) hg]
          simpa using h1
  | _ => exact kC_rel D hm hxy
end
end
end Go.Sy
