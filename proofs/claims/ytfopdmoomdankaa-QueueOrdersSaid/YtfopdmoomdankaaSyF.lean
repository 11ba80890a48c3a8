/- Value operations: the machine does what the abstract step says. -/
import Derived.Test.YtfopdmoomdankaaSyE
set_option linter.unusedVariables false
set_option linter.unusedSimpArgs false
namespace Go.Sy
open Go

def enters (P : Program) (f : FuncId) : Bool := match P.funcs[f]? with | some fn => !(fn.name == "runtime.NumGoroutine") && fn.body.isSome | none => false

section
variable {K : Type}

def RBs (D : Dom K) (ok : Nat → Prop) (w : World) (xs : List (B K)) (ys : List Value) : Prop :=
  xs.length = ys.length ∧ ∀ (j : Nat) (x : B K), xs[j]? = some x → ∃ y, ys[j]? = some y ∧ RB D (fun _ => none) ok w x y

/-- What is lent to a call. -/
def lend (still : Bool) (hp : List (Nat × Ob K)) (val : Nat → Option Value) : Bw where
  b := fun b => ∃ i ob v, lk hp i = some ob ∧ val i = some v ∧ vblk v = some b
  pin := fun i => match lk hp i with | some (.row _ _) => (match still with | true => val i | false => none) | some _ => val i | none => none

/-- Objects, seen from between calls. -/
def Hold (D : Dom K) (mb : Bw) (okc : Nat → Prop) (w0 : World) (val : Nat → Option Value) (hp : List (Nat × Ob K)) (w : World) : Prop :=
  Rst D mb okc w0 0 val { sl := [], hp := hp } { tmps := #[], defers := [] } w

def RBv (D : Dom K) (val : Nat → Option Value) (ok : Nat → Prop) (w : World) (xs : List (B K)) (ys : List Value) : Prop :=
  xs.length = ys.length ∧ ∀ (j : Nat) (x : B K), xs[j]? = some x → ∃ y, ys[j]? = some y ∧ RB D val ok w x y

/-- With lent objects: what they are behind the call is told. -/
def MeetsM (P : Program) (D : Dom K) (f : FuncId) (S : Sp K) : Prop :=
  ∀ args hp pre r hp', args.length = S.ar → S.g args hp = some (pre, r, hp') → pre → ∀ (okc : Nat → Prop) (w : World) (val : Nat → Option Value) (vals : List Value),
    Hold D (lend S.still hp val) okc w val hp w → RBv D val (okS w.heap.size okc hp val) w args vals →
    Calls P f vals.toArray w fun e w' => ∃ v val', e = .returned v ∧ Hold D (lend S.still hp val) okc w val' hp' w' ∧ RA D val' (okS w.heap.size okc hp' val') w' r v

/-- A function keeps its contract: nothing that lay there before is changed. -/
def Meets (P : Program) (D : Dom K) (f : FuncId) (S : Sp K) : Prop :=
  enters P f = true ∧ (∀ k, some k ∈ S.nk → D.ptr k = false ∧ D.len k = 0 ∧ D.wf k) ∧
  (∀ args pre r, args.length = S.ar → S.f args = some (pre, r) → pre → ∀ (ok : Nat → Prop) (w : World) (vals : List Value), RBs D ok w args vals →
    Calls P f vals.toArray w fun e w' => ∃ v, e = .returned v ∧ Keep (fun _ => False) w w' ∧ RA D (fun _ => none) (fun b => b < w.heap.size → ok b) w' r v) ∧ MeetsM P D f S

structure DomOk (P : Program) (D : Dx K) : Prop where
  zobj : ∀ T ob, D.zobj T = some ob → ∃ i z, P.info? T = some i ∧ i.zero = some z ∧ i.size = z.cells.size ∧
    match ob with
    | .box T' cs => T' = T ∧ ∀ w ok, Rs D.toDom (fun _ => none) ok w cs z.cells.toList
    | .arr T' k => T' = T ∧ D.ptr k = false ∧ D.wf k ∧ ∀ w ok, Rs D.toDom (fun _ => none) ok w (D.flat k) z.cells.toList
    | .row _ _ => False
  zbox : ∀ T cs T', D.zobj T = some (.box T' cs) → ∃ fs, P.underlying T = some (.struct fs)
  zc : ∀ e n k, D.zeros e n = some k → ∃ i z, P.info? e = some i ∧ i.zero = some z ∧ i.size = z.cells.size ∧ ∀ w ok, Rs D.toDom (fun _ => none) ok w (D.zc e) z.cells.toList

theorem wp_value {P : Program} {o : Oper} {a : Act} {w w' : World} {next : Act → World → Prop} {Q : Exit → Act → World → Prop} {y : Value}
    (h : (execOp a.eval o).run P w = .ok (.value y) w') (hn : next (a.put o.dst y) w') : o.wp P a w next Q := by
  unfold Oper.wp; rw [h]; exact hn

variable {D : Dom K} {okc : Nat → Prop} {w0 w : World} {nt : Nat} {val : Nat → Option Value} {st : St K} {a : Act}

theorem ev_rel {mb : Bw} (h : Rst D mb okc w0 nt val st a w) {x : Operand} {x' : O} (hx : CO x x') : RA D val (okS w0.heap.size okc st.hp val) w (ev st x') (a.eval x) := by
  cases hx with
  | t n =>
    simp only [ev]
    cases hl : lk st.sl n with
    | none => trivial
    | some x =>
      obtain ⟨y, h1, h2⟩ := h.sl n x hl
      simpa [Act.eval, Array.getD_eq_getD_getElem?, h1] using h2
  | k x hx => exact ⟨0, rfl, hx⟩
  | f n => exact ⟨0, by simp [RC, Act.eval]⟩

theorem ev_v {mb : Bw} (h : Rst D mb okc w0 nt val st a w) {x : Operand} {x' : O} (hx : CO x x') {v : Value} (he : ev st x' = .b (.c (.v v))) : a.eval x = v ∧ v.oneCell' = true := by
  have := ev_rel h hx
  rw [he] at this
  obtain ⟨n, hn⟩ := this
  cases n <;> exact hn
theorem ev_c {mb : Bw} (h : Rst D mb okc w0 nt val st a w) {x : Operand} {x' : O} (hx : CO x x') {c : C K} (he : ev st x' = .b (.c c)) : Rc D val (okS w0.heap.size okc st.hp val) w c (a.eval x) := by
  have := ev_rel h hx
  rwa [he] at this
theorem ev_b {mb : Bw} (h : Rst D mb okc w0 nt val st a w) {x : Operand} {x' : O} (hx : CO x x') {c : B K} (he : ev st x' = .b c) : RB D val (okS w0.heap.size okc st.hp val) w c (a.eval x) := by
  have := ev_rel h hx
  rwa [he] at this

theorem rc_im {ok : Nat → Prop} {k : K} {u : Value} (h : Rc D val ok w (.im k) u) : ∃ n, Im D ok w (RC D ok w n fun _ => none) k u := by
  obtain ⟨n, h⟩ := h
  cases n with
  | zero => exact h.elim
  | succ n => exact ⟨n, h⟩
theorem rc_v {ok : Nat → Prop} {x u : Value} (h : x.oneCell' = true) (e : u = x) : Rc D val ok w (.v x) u := ⟨0, e, h⟩
theorem rc_p {ok : Nat → Prop} {i o : Nat} {u : Value} (h : Rc D val ok w (.p i o) u) : ∃ b, val i = some (.pointer (some ⟨b, 0, none⟩)) ∧ u = .pointer (some ⟨b, o, none⟩) := by
  obtain ⟨n, h⟩ := h
  cases n <;> exact h
theorem rc_pr {ok : Nat → Prop} {i s n j : Nat} {u : Value} (h : Rc D val ok w (.pr i s n j) u) : ∃ v b, val i = some v ∧ vbase v = some ⟨b, 0, none⟩ ∧ u = .pointer (some ⟨b, n * s + j, none⟩) := by
  obtain ⟨m, h⟩ := h
  cases m <;> exact h
theorem rc_row {ok : Nat → Prop} {i : Nat} {u : Value} (h : Rc D val ok w (.row i) u) : val i = some u ∧ ∃ a n c, u = .slice a n c := by
  obtain ⟨m, h⟩ := h
  cases m <;> exact h
theorem rc_ip {ok : Nat → Prop} {k : K} {n j : Nat} {u : Value} (h : Rc D val ok w (.ip k n j) u) :
    n < D.len k ∧ ∃ s b off m, Im D ok w (RC D ok w m fun _ => none) k s ∧ vbase s = some ⟨b, off, none⟩ ∧ u = .pointer (some ⟨b, off + (n * D.sz k + j), none⟩) := by
  obtain ⟨m, h⟩ := h
  cases m with
  | zero => exact h.elim
  | succ m => obtain ⟨h1, s, b, off, h2, h3, h4⟩ := h; exact ⟨h1, s, b, off, m, h2, h3, h4⟩

/-- What known data holds can be loaded. -/
theorem im_cells {ok : Nat → Prop} {k : K} {s : Value} {m : Nat} (h : Im D ok w (RC D ok w m fun _ => none) k s) {b off : Nat} (hb : vbase s = some ⟨b, off, none⟩) {n : Nat} (hn : n < D.len k) :
    ∀ (sz j : Nat), j + sz ≤ D.sz k → ∃ us, us.length = sz ∧ (∀ i u, us[i]? = some u → w.cell? ⟨b, off + (n * D.sz k + j) + i, none⟩ = some u) ∧ Rs D val ok w ((List.range sz).map fun i => D.cell k n (j + i)) us := by
  intro sz
  obtain ⟨_, _, hl⟩ := h
  have hl := hl.resolve_left (by omega)
  obtain ⟨b', off', hb', _, hlt, hc⟩ := hl
  rw [hb] at hb'
  injection hb' with hb'; injection hb' with e1 e2; subst e1; subst e2
  induction sz with
  | zero => intro j _; exact ⟨[], rfl, fun i u hu => by simp at hu, rfl, fun i x hx => by simp at hx⟩
  | succ sz ih =>
    intro j hj
    obtain ⟨us, h1, h2, h3⟩ := ih j (by omega)
    obtain ⟨y, hy, hr⟩ := hc _ _ (D.cell_eq k n (j + sz) hn (by omega))
    refine ⟨us ++ [y], by simp [h1], fun i u hu => ?_, ?_⟩
    · by_cases hi : i < us.length
      · rw [List.getElem?_append_left hi] at hu; exact h2 i u hu
      · rw [List.getElem?_append_right (by omega)] at hu
        have hi0 : i - us.length = 0 := by
          rcases Nat.eq_zero_or_pos (i - us.length) with h | h
          · exact h
          · rw [List.getElem?_eq_none (by simp; omega)] at hu; cases hu
        rw [hi0] at hu
        simp at hu
        subst hu
        have : i = sz := by omega
        subst this
        rw [← hy]
        congr 2
        omega
    · rw [List.range_succ, List.map_append]
      exact h3.append D ⟨rfl, fun i x hx => by
        cases i with
        | zero => simp at hx; subst hx; exact ⟨y, rfl, m, RC_mono D (fun b _ h => ⟨h, rfl⟩) (Nat.le_refl _) m m _ _ _ _ (Nat.le_refl _) (fun i hi => by
            obtain ⟨v, hv⟩ := Rc.live D ⟨m, hr⟩ hi
            cases hv) hr⟩
        | succ i => simp at hx⟩

theorem cellsFrom_eq {D : Dx K} {k : K} {n : Nat} : ∀ (sz j : Nat), cellsFrom D k n j sz = (List.range sz).map fun i => D.cell k n (j + i)
  | 0, _ => rfl
  | sz + 1, j => by
    rw [cellsFrom, cellsFrom_eq sz (j + 1), List.range_succ_eq_map]
    simp [Nat.add_assoc, Nat.add_comm 1]
end
end Go.Sy
