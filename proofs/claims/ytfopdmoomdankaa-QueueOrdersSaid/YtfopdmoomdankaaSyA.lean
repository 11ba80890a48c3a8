/- The abstract values, states and their reading in a world. -/
import Derived.WalkKit
import Derived.Laws.OwnMore
import Derived.Deep.Draws
set_option linter.unusedVariables false
set_option linter.unusedSimpArgs false
namespace Go.Sy
open Go

/-- Numbers are alike; one is at most the other; one is below the other. -/
def eqn (a b : Nat) : Bool := decide (a = b)
def len (a b : Nat) : Bool := decide (a ≤ b)
def ltn (a b : Nat) : Bool := decide (a < b)
theorem eqn_true {a b : Nat} (h : eqn a b = true) : a = b := of_decide_eq_true h
theorem len_true {a b : Nat} (h : len a b = true) : a ≤ b := of_decide_eq_true h
theorem ltn_true {a b : Nat} (h : ltn a b = true) : a < b := of_decide_eq_true h
theorem len_of {a b : Nat} (h : a ≤ b) : len a b = true := decide_eq_true h
@[simp] theorem eqn_self (a : Nat) : eqn a a = true := decide_eq_true rfl

/-- What is known of one cell. -/
inductive C (K : Type) where
  | top | v (x : Value) | p (i o : Nat) | ifp (T : TypeId) (i o : Nat) | row (i : Nat) | pr (i s n j : Nat) | im (k : K) | ip (k : K) (n j : Nat) | fn (f : FuncId) (k : Option K)
inductive B (K : Type) where | c (x : C K) | g (cs : List (C K))
inductive A (K : Type) where | b (x : B K) | u (xs : List (B K)) | top

/-- Kinds of known data: how they lie in memory. -/
structure Dom (K : Type) where
  ptr : K → Bool
  sz : K → Nat
  flat : K → List (C K)
  len : K → Nat
  cell : K → Nat → Nat → C K
  wf : K → Prop
  flat_len : ∀ k, (flat k).length = len k * sz k
  cell_eq : ∀ k i j, i < len k → j < sz k → (flat k)[i * sz k + j]? = some (cell k i j)
  ptr_len : ∀ k, ptr k = true → len k = 1

def vbase : Value → Option Addr
  | .pointer a => a
  | .slice a _ _ => a
  | _ => none
def vblk (v : Value) : Option Nat := (vbase v).map (·.block)

section
variable {K : Type} (D : Dom K)

def Im (ok : Nat → Prop) (w : World) (R : C K → Value → Prop) (k : K) (u : Value) : Prop :=
  D.wf k ∧ (if D.ptr k then ∃ a, u = .pointer a else ∃ a c, u = .slice a (D.len k) c ∧ D.len k ≤ c ∧ c ≤ maxLen) ∧
  (D.len k = 0 ∨ ∃ b off, vbase u = some ⟨b, off, none⟩ ∧ ok b ∧ b < w.heap.size ∧ ∀ (m : Nat) (x : C K), (D.flat k)[m]? = some x → ∃ y, w.cell? ⟨b, off + m, none⟩ = some y ∧ R x y)

/-- A cell's value is as described (with so much fuel for what lies behind references). -/
def RC (ok : Nat → Prop) (w : World) : Nat → (Nat → Option Value) → C K → Value → Prop
  | _, _, .top, u => u.oneCell' = true
  | _, _, .v x, u => u = x ∧ x.oneCell' = true
  | _, val, .p i o, u => ∃ b, val i = some (.pointer (some ⟨b, 0, none⟩)) ∧ u = .pointer (some ⟨b, o, none⟩)
  | _, val, .ifp T i o, u => ∃ b, val i = some (.pointer (some ⟨b, 0, none⟩)) ∧ u = .iface T (.pointer (some ⟨b, o, none⟩))
  | _, val, .row i, u => val i = some u ∧ ∃ a n c, u = .slice a n c
  | _, val, .pr i s n j, u => ∃ v b, val i = some v ∧ vbase v = some ⟨b, 0, none⟩ ∧ u = .pointer (some ⟨b, n * s + j, none⟩)
  | 0, _, .im _, _ => False
  | 0, _, .ip _ _ _, _ => False
  | m + 1, _, .im k, u => Im D ok w (RC ok w m fun _ => none) k u
  | m + 1, _, .ip k n j, u => n < D.len k ∧ ∃ s b off, Im D ok w (RC ok w m fun _ => none) k s ∧ vbase s = some ⟨b, off, none⟩ ∧ u = .pointer (some ⟨b, off + (n * D.sz k + j), none⟩)
  | _, _, .fn f none, u => u = .func (.func f) #[] #[]
  | 0, _, .fn _ (some _), _ => False
  | m + 1, _, .fn f (some k), u => ∃ s, Im D ok w (RC ok w m fun _ => none) k s ∧ u = .func (.func f) #[s] #[]

def C.has (i : Nat) : C K → Bool
  | .p a _ | .ifp _ a _ | .row a | .pr a _ _ _ => a == i
  | _ => false

theorem Im_mono {ok ok' : Nat → Prop} {w w' : World} {R R' : C K → Value → Prop} (hok : ∀ b, b < w.heap.size → ok b → ok' b ∧ w'.heap[b]? = w.heap[b]?)
    (hs : w.heap.size ≤ w'.heap.size) (hR : ∀ x y, R x y → R' x y) {k : K} {u : Value} (h : Im D ok w R k u) : Im D ok' w' R' k u := by
  obtain ⟨hw, hf, hl⟩ := h
  refine ⟨hw, hf, ?_⟩
  rcases hl with hl | ⟨b, off, hb, hokb, hlt, hc⟩
  · exact .inl hl
  · obtain ⟨h1, h2⟩ := hok b hlt hokb
    refine .inr ⟨b, off, hb, h1, Nat.lt_of_lt_of_le hlt hs, fun m x hx => ?_⟩
    obtain ⟨y, hy, hr⟩ := hc m x hx
    exact ⟨y, by simpa [World.cell?, h2] using hy, hR _ _ hr⟩

theorem RC_mono {ok ok' : Nat → Prop} {w w' : World} (hok : ∀ b, b < w.heap.size → ok b → ok' b ∧ w'.heap[b]? = w.heap[b]?)
    (hs : w.heap.size ≤ w'.heap.size) : ∀ (n m : Nat) (val val' : Nat → Option Value) (x : C K) (y : Value), n ≤ m → (∀ i, x.has i = true → val' i = val i) →
      RC D ok w n val x y → RC D ok' w' m val' x y := by
  intro n
  induction n with
  | zero =>
    intro m val val' x y hnm hv h
    cases x with
    | top => cases m <;> exact h
    | v x => cases m <;> exact h
    | p i o => have := hv i (by simp [C.has]); cases m <;> simpa [RC, this] using h
    | ifp T i o => have := hv i (by simp [C.has]); cases m <;> simpa [RC, this] using h
    | row i => have := hv i (by simp [C.has]); cases m <;> simpa [RC, this] using h
    | pr i s n j => have := hv i (by simp [C.has]); cases m <;> simpa [RC, this] using h
    | im k => exact h.elim
    | ip k n j => exact h.elim
    | fn f k => cases k with
      | none => cases m <;> exact h
      | some k => exact h.elim
  | succ n ih =>
    intro m val val' x y hnm hv h
    obtain ⟨m, rfl⟩ : ∃ m', m = m' + 1 := ⟨m - 1, by omega⟩
    have hI : ∀ {k : K} {u : Value}, Im D ok w (RC D ok w n fun _ => none) k u → Im D ok' w' (RC D ok' w' m fun _ => none) k u := fun h =>
      Im_mono D hok hs (fun x y hxy => ih m _ _ x y (by omega) (fun _ _ => rfl) hxy) h
    cases x with
    | top => exact h
    | v x => exact h
    | p i o => have := hv i (by simp [C.has]); simpa [RC, this] using h
    | ifp T i o => have := hv i (by simp [C.has]); simpa [RC, this] using h
    | row i => have := hv i (by simp [C.has]); simpa [RC, this] using h
    | pr i s n j => have := hv i (by simp [C.has]); simpa [RC, this] using h
    | im k => exact hI h
    | ip k n j =>
      obtain ⟨h1, s, b, off, h2, h3, h4⟩ := h
      exact ⟨h1, s, b, off, hI h2, h3, h4⟩
    | fn f k => cases k with
      | none => exact h
      | some k => obtain ⟨s, h2, h3⟩ := h; exact ⟨s, hI h2, h3⟩

def Rc (val : Nat → Option Value) (ok : Nat → Prop) (w : World) (x : C K) (y : Value) : Prop := ∃ n, RC D ok w n val x y

theorem RC_one {ok : Nat → Prop} {w : World} {n : Nat} {val : Nat → Option Value} {x : C K} {y : Value} (h : RC D ok w n val x y) : y.oneCell' = true := by
  cases x with
  | top => cases n <;> exact h
  | v x => cases n <;> (obtain ⟨rfl, h⟩ := h; exact h)
  | p i o => cases n <;> (obtain ⟨b, _, rfl⟩ := h; rfl)
  | ifp T i o => cases n <;> (obtain ⟨b, _, rfl⟩ := h; rfl)
  | row i => cases n <;> (obtain ⟨_, a, n, c, rfl⟩ := h; rfl)
  | pr i s m j => cases n <;> (obtain ⟨v, b, _, _, rfl⟩ := h; rfl)
  | im k => cases n with
    | zero => exact h.elim
    | succ n =>
      obtain ⟨_, h, _⟩ := h
      split at h
      · obtain ⟨a, rfl⟩ := h; rfl
      · obtain ⟨a, c, rfl, _⟩ := h; rfl
  | ip k m j => cases n with
    | zero => exact h.elim
    | succ n => obtain ⟨_, s, b, off, _, _, rfl⟩ := h; rfl
  | fn f k => cases k with
    | none => cases n <;> (rw [RC] at h; subst h; rfl)
    | some k => cases n with
      | zero => exact h.elim
      | succ n => obtain ⟨s, _, rfl⟩ := h; rfl

theorem Rc_one {ok : Nat → Prop} {w : World} {val : Nat → Option Value} {x : C K} {y : Value} (h : Rc D val ok w x y) : y.oneCell' = true := by
  obtain ⟨n, h⟩ := h; exact RC_one D h

/-- How the world and what may be read move on. -/
structure Mv (ok ok' : Nat → Prop) (w w' : World) : Prop where
  blk : ∀ b, b < w.heap.size → ok b → ok' b ∧ w'.heap[b]? = w.heap[b]?
  size : w.heap.size ≤ w'.heap.size

theorem Mv.refl (ok : Nat → Prop) (w : World) : Mv ok ok w w := ⟨fun _ _ h => ⟨h, rfl⟩, Nat.le_refl _⟩

theorem Rc.mv {ok ok' : Nat → Prop} {w w' : World} {val val' : Nat → Option Value} {x : C K} {y : Value} (h : Rc D val ok w x y) (hm : Mv ok ok' w w')
    (hv : ∀ i, x.has i = true → val' i = val i) : Rc D val' ok' w' x y := by
  obtain ⟨n, h⟩ := h
  exact ⟨n, RC_mono D hm.blk hm.size n n val val' x y (Nat.le_refl _) hv h⟩

def Rs (val : Nat → Option Value) (ok : Nat → Prop) (w : World) (xs : List (C K)) (ys : List Value) : Prop :=
  xs.length = ys.length ∧ ∀ (j : Nat) (x : C K), xs[j]? = some x → ∃ y, ys[j]? = some y ∧ Rc D val ok w x y

def RB (val : Nat → Option Value) (ok : Nat → Prop) (w : World) : B K → Value → Prop
  | .c x, u => Rc D val ok w x u
  | .g cs, u => ∃ us : List Value, u = .agg us.toArray ∧ Rs D val ok w cs us

def RA (val : Nat → Option Value) (ok : Nat → Prop) (w : World) : A K → Value → Prop
  | .b x, u => RB D val ok w x u
  | .u xs, u => ∃ us : List Value, u = .tuple us.toArray ∧ xs.length = us.length ∧ ∀ (j : Nat) (x : B K), xs[j]? = some x → ∃ y, us[j]? = some y ∧ RB D val ok w x y
  | .top, _ => True

def B.has (i : Nat) : B K → Bool
  | .c x => x.has i
  | .g cs => cs.any (·.has i)
def A.has (i : Nat) : A K → Bool
  | .b x => x.has i
  | .u xs => xs.any (·.has i)
  | .top => false

section
variable {ok ok' : Nat → Prop} {w w' : World} {val val' : Nat → Option Value}

theorem Rs.mv {xs : List (C K)} {ys : List Value} (h : Rs D val ok w xs ys) (hm : Mv ok ok' w w') (hv : ∀ i, xs.any (·.has i) = true → val' i = val i) : Rs D val' ok' w' xs ys := by
  refine ⟨h.1, fun j x hx => ?_⟩
  obtain ⟨y, hy, hr⟩ := h.2 j x hx
  exact ⟨y, hy, hr.mv D hm fun i hi => hv i (List.any_eq_true.2 ⟨x, List.mem_of_getElem? hx, hi⟩)⟩

theorem RB.mv {x : B K} {y : Value} (h : RB D val ok w x y) (hm : Mv ok ok' w w') (hv : ∀ i, x.has i = true → val' i = val i) : RB D val' ok' w' x y := by
  cases x with
  | c x => exact Rc.mv D h hm hv
  | g cs => obtain ⟨us, rfl, h⟩ := h; exact ⟨us, rfl, h.mv D hm hv⟩

theorem RA.mv {x : A K} {y : Value} (h : RA D val ok w x y) (hm : Mv ok ok' w w') (hv : ∀ i, x.has i = true → val' i = val i) : RA D val' ok' w' x y := by
  cases x with
  | b x => exact RB.mv D h hm hv
  | top => trivial
  | u xs =>
    obtain ⟨us, rfl, hl, h⟩ := h
    refine ⟨us, rfl, hl, fun j x hx => ?_⟩
    obtain ⟨y, hy, hr⟩ := h j x hx
    exact ⟨y, hy, hr.mv D hm fun i hi => hv i (List.any_eq_true.2 ⟨x, List.mem_of_getElem? hx, hi⟩)⟩

theorem Rs.nil : Rs D val ok w [] [] := ⟨rfl, fun j x h => by simp at h⟩

theorem Rs.cons {x : C K} {y : Value} {xs : List (C K)} {ys : List Value} (h : Rc D val ok w x y) (hs : Rs D val ok w xs ys) : Rs D val ok w (x :: xs) (y :: ys) := by
  refine ⟨by simp [hs.1], fun j z hz => ?_⟩
  cases j with
  | zero => simp at hz; subst hz; exact ⟨y, rfl, h⟩
  | succ j => simpa using hs.2 j z (by simpa using hz)

theorem Rs.append {xs xs' : List (C K)} {ys ys' : List Value} (h : Rs D val ok w xs ys) (h' : Rs D val ok w xs' ys') : Rs D val ok w (xs ++ xs') (ys ++ ys') := by
  refine ⟨by simp [h.1, h'.1], fun j z hz => ?_⟩
  by_cases hj : j < xs.length
  · rw [List.getElem?_append_left hj] at hz
    obtain ⟨y, hy, hr⟩ := h.2 j z hz
    exact ⟨y, by rw [List.getElem?_append_left (by have := h.1; omega)]; exact hy, hr⟩
  · rw [List.getElem?_append_right (by omega)] at hz
    obtain ⟨y, hy, hr⟩ := h'.2 _ z hz
    exact ⟨y, by rw [List.getElem?_append_right (by have := h.1; omega), ← h.1]; exact hy, hr⟩

theorem Rs.take {xs : List (C K)} {ys : List Value} (h : Rs D val ok w xs ys) (n : Nat) : Rs D val ok w (xs.take n) (ys.take n) := by
  refine ⟨by simp [h.1], fun j z hz => ?_⟩
  rw [List.getElem?_take] at hz
  split at hz
  · obtain ⟨y, hy, hr⟩ := h.2 j z hz
    exact ⟨y, by rw [List.getElem?_take, if_pos ‹_›]; exact hy, hr⟩
  · cases hz

theorem Rs.drop {xs : List (C K)} {ys : List Value} (h : Rs D val ok w xs ys) (n : Nat) : Rs D val ok w (xs.drop n) (ys.drop n) := by
  refine ⟨by simp [h.1], fun j z hz => ?_⟩
  rw [List.getElem?_drop] at hz
  obtain ⟨y, hy, hr⟩ := h.2 _ z hz
  exact ⟨y, by rw [List.getElem?_drop]; exact hy, hr⟩

theorem Rs.one {xs : List (C K)} {ys : List Value} (h : Rs D val ok w xs ys) : ∀ y ∈ ys, y.oneCell' = true := by
  intro y hy
  obtain ⟨j, hj, rfl⟩ := List.getElem_of_mem hy
  obtain ⟨y', h1, h2⟩ := h.2 j (xs[j]'(by have := h.1; omega)) (by simp)
  rw [List.getElem?_eq_getElem hj] at h1
  injection h1 with h1
  subst h1
  exact Rc_one D h2

/-- The cells of a value. -/
def B.cells : B K → List (C K)
  | .c x => [x]
  | .g cs => cs

theorem RB.cells {x : B K} {y : Value} (h : RB D val ok w x y) : Rs D val ok w x.cells y.cells.toList := by
  cases x with
  | c x =>
    have h1 := Rc_one D h
    have : y.cells = #[y] := by cases y <;> simp_all [Value.cells, Value.oneCell']
    rw [this]
    exact Rs.cons D h (Rs.nil D)
  | g cs => obtain ⟨us, rfl, h⟩ := h; simpa [Value.cells, B.cells] using h
end
end

/-! ### The state -/
inductive Ob (K : Type) where
  | box (t : TypeId) (cs : List (C K))
  | row (e : TypeId) (k : K)
  | arr (t : TypeId) (k : K)

def Ob.isR {K : Type} : Ob K → Bool
  | .row _ _ => true
  | _ => false

structure St (K : Type) where
  sl : List (Nat × A K)
  hp : List (Nat × Ob K)

def lk {α : Type} : List (Nat × α) → Nat → Option α
  | [], _ => none
  | (a, b) :: r, t => match eqn a t with | true => some b | false => lk r t

structure Keep (mb : Nat → Prop) (w w' : World) : Prop where
  os : w'.os = w.os
  tape : w'.tape = w.tape
  output : w'.output = w.output
  size : w.heap.size ≤ w'.heap.size
  block : ∀ b, b < w.heap.size → ¬ mb b → w'.heap[b]? = w.heap[b]?

theorem Keep.refl (mb : Nat → Prop) (w : World) : Keep mb w w := ⟨rfl, rfl, rfl, Nat.le_refl _, fun _ _ _ => rfl⟩

section
variable {K : Type} (D : Dom K)

def obRel (val : Nat → Option Value) (ok : Nat → Prop) (w : World) : Ob K → Value → Prop
  | .box t cs, v => ∃ b us, v = .pointer (some ⟨b, 0, none⟩) ∧ w.heap[b]? = some (.cells us t (0, 0)) ∧ Rs D val ok w cs us.toList
  | .arr t k, v => D.ptr k = false ∧ D.wf k ∧ ∃ b us, v = .pointer (some ⟨b, 0, none⟩) ∧ w.heap[b]? = some (.cells us t (0, 0)) ∧ Rs D (fun _ => none) ok w (D.flat k) us.toList
  | .row e k, v => D.ptr k = false ∧ D.wf k ∧ ∃ xs, w.ownsRow 0 e (D.sz k) v (D.len k) xs ∧ Rs D (fun _ => none) ok w (D.flat k) xs

def okS (base : Nat) (okc : Nat → Prop) (hp : List (Nat × Ob K)) (val : Nat → Option Value) (b : Nat) : Prop :=
  (b < base → okc b) ∧ ∀ i ob v, lk hp i = some ob → val i = some v → vblk v ≠ some b

/-- What is lent to a call: the blocks that it may write, and the objects that stay where they are. -/
structure Bw where
  b : Nat → Prop
  pin : Nat → Option Value

/-- The state reads so in the frame and the world. -/
structure Rst (mb : Bw) (okc : Nat → Prop) (w0 : World) (nt : Nat) (val : Nat → Option Value) (st : St K) (a : Act) (w : World) : Prop where
  keep : Keep mb.b w0 w
  defs : a.defers = []
  size : a.tmps.size = nt
  sl : ∀ t x, lk st.sl t = some x → ∃ y, a.tmps[t]? = some y ∧ RA D val (okS w0.heap.size okc st.hp val) w x y
  hp : ∀ i ob, lk st.hp i = some ob → ∃ v, val i = some v ∧ obRel D val (okS w0.heap.size okc st.hp val) w ob v ∧ ∀ b, vblk v = some b → b < w.heap.size ∧ (mb.b b ∨ w0.heap.size ≤ b)
  vl : ∀ i, lk st.hp i = none → val i = none
  dj : ∀ i j ob ob' v v' b, lk st.hp i = some ob → lk st.hp j = some ob' → val i = some v → val j = some v' → vblk v = some b → vblk v' = some b → i = j
  bok : ∀ b, mb.b b → okc b
  pin : ∀ i ob v, mb.pin i = some v → lk st.hp i = some ob → val i = some v
  pinlt : ∀ i v, mb.pin i = some v → 1000000 ≤ i
  ntle : nt ≤ 1000000
end
end Go.Sy
