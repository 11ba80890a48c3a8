/- Value operations: soundness. -/
import Derived.Test.YtfopdmoomdankaaSyF
set_option linter.unusedVariables false
set_option linter.unusedSimpArgs false
namespace Go.Sy
open Go

section
variable {K : Type} {N : Hide} {P : Program} {D : Dx K} {R : List (Nat × Sp K)} {mb : Bw} {okc : Nat → Prop} {w0 w : World} {nt : Nat} {val : Nat → Option Value} {st : St K} {a : Act} {o : Oper}


/-- The conclusion for an operation that gives a value. -/
def Gives (P : Program) (D : Dx K) (mb : Bw) (okc : Nat → Prop) (w0 : World) (nt : Nat) (val : Nat → Option Value) (st : St K) (a : Act) (w : World) (o : Oper) (x : A K) : Prop :=
  ∀ (next : Act → World → Prop) (Q : Exit → Act → World → Prop), (∀ y w', Rst D.toDom mb okc w0 nt val st a w' → RA D.toDom val (okS w0.heap.size okc st.hp val) w' x y → next (a.put o.dst y) w') → o.wp P a w next Q

theorem gives_same {x : A K} {y : Value} (hst : Rst D.toDom mb okc w0 nt val st a w) (hr : (execOp a.eval o).run P w = .ok (.value y) w) (hx : RA D.toDom val (okS w0.heap.size okc st.hp val) w x y) :
    Gives P D mb okc w0 nt val st a w o x := fun next Q h => wp_value hr (h y w hst hx)

theorem thp {N : Hide} {p : Prop} (h : N.th fun _ => p) : p := by rw [N.eq] at h; exact h

theorem run_bin_gives {op : BinOp} {T T' : TypeId} {x y : Operand} {k k' : IntKind} {A B : Int} (hop : o.op = .binOp op T x y T') (hx : a.eval x = .int k A) (hy : a.eval y = .int k' B)
    {v : Value} (hv : (binOp op T (.int k A) (.int k' B)).run P w = .ok v w) : (execOp a.eval o).run P w = .ok (.value v) w := by
  have hg : (eqGuard op T x y (.int k A) (.int k' B)).run P w = .ok () w := by
    unfold eqGuard
    cases op <;> rfl
  simp [execOp, hop, hx, hy, hg, hv]

theorem binV_run {op : BinOp} {T : TypeId} {k k' : IntKind} {A B : Int} {q : Value → Prop} (hk : (op = .shl ∨ op = .shr) ∨ k = k') (h : binV N op k A B q) :
    ∃ v, q v ∧ v.oneCell' = true ∧ (binOp op T (.int k A) (.int k' B)).run P w = .ok v w := by
  cases op <;> simp only [binV] at h
  case shl =>
    have h0 := thp h.1
    have h0' : ¬ B < 0 := by omega
    exact ⟨_, h.2, rfl, by simp [binOp, Op.shift, h0', N.eq]⟩
  case shr =>
    have h0 := thp h.1
    have h0' : ¬ B < 0 := by omega
    exact ⟨_, h.2, rfl, by simp [binOp, Op.shift, h0', N.eq]⟩
  all_goals
    obtain rfl : k = k' := by simpa using hk
    first
      | exact ⟨_, h, rfl, by simp [binOp, Op.intArith, Op.intBits, Op.intCmp, N.eq]⟩
      | (have h0 := thp h.1; exact ⟨_, h.2, rfl, by simp [binOp, Op.intDiv, h0, N.eq]⟩)

theorem eval_map {xs : List Operand} : (xs.map a.eval).toArray = (xs.toArray).map a.eval := by simp

theorem asm_rel {g : Bool} {ys : List (C K)} {us : List Value} {q : A K → Prop} (h : asm g ys q) {ok : Nat → Prop} (hr : Rs D.toDom val ok w ys us) :
    ∃ x y, q x ∧ RA D.toDom val ok w x y ∧ (match g with | true => y = .agg us.toArray | false => ∃ r, us = y :: r) := by
  cases g
  · match ys, h, hr with
    | [], h, _ => exact h.elim
    | _ :: _ :: _, h, _ => exact h.elim
    | [y0], h, hr =>
      obtain ⟨u, h1, h2⟩ := hr.2 0 y0 rfl
      cases us with
      | nil => simp at h1
      | cons u1 r => simp at h1; subst h1; exact ⟨_, _, h, h2, r, rfl⟩
  · exact ⟨_, _, h, ⟨us, rfl, hr⟩, rfl⟩

theorem gives_ld {T : TypeId} {x : Operand} {g : Bool} {sz b of : Nat} {ys : List (C K)} {us : List Value} {q : A K → Prop} (hst : Rst D.toDom mb okc w0 nt val st a w) (hop : o.op = .load T x) (hg : aggT P T = some g) (hs : szT P T = some sz)
    (hx : a.eval x = .pointer (some ⟨b, of, none⟩)) (hl : us.length = sz) (hc : ∀ j u, us[j]? = some u → w.cell? ⟨b, of + j, none⟩ = some u) (hr : Rs D.toDom val (okS w0.heap.size okc st.hp val) w ys us)
    (h : asm g ys q) : ∃ x, q x ∧ Gives P D mb okc w0 nt val st a w o x := by
  obtain ⟨x', y, h1, h2, h3⟩ := asm_rel h hr
  refine ⟨x', h1, gives_same (y := y) hst ?_ h2⟩
  have hrun := run_ld (P := P) (w := w) hg hs hl hc
  cases g
  · obtain ⟨r, rfl⟩ := h3
    simp only at hrun
    simp [execOp, hop, hx, hrun]
  · simp only at h3; subst h3
    simp only at hrun
    simp [execOp, hop, hx, hrun]

/-- The cells of a row or of an array variable. -/
theorem pr_cells (hst : Rst D.toDom mb okc w0 nt val st a w) {i : Nat} {v : Value} {b : Nat} {k : K} {ob : Ob K} (hi : lk st.hp i = some ob) (hob : (∃ e, ob = .row e k) ∨ (∃ t, ob = .arr t k)) (hv : val i = some v) (hb : vbase v = some ⟨b, 0, none⟩) {n sz j : Nat} (hn : n < D.len k) (hj : j + sz ≤ D.sz k) :
    ∃ us, us.length = sz ∧ (∀ m u, us[m]? = some u → w.cell? ⟨b, n * D.sz k + j + m, none⟩ = some u) ∧ Rs D.toDom val (okS w0.heap.size okc st.hp val) w (cellsFrom D k n j sz) us := by
  obtain ⟨v', h1, h2, _⟩ := hst.hp i ob hi
  rw [hv] at h1; injection h1 with h1; subst h1
  have hcells : ∃ xs : List Value, Rs D.toDom (fun _ => none) (okS w0.heap.size okc st.hp val) w (D.flat k) xs ∧ ∀ m u, xs[m]? = some u → w.cell? ⟨b, m, none⟩ = some u := by
    rcases hob with ⟨e, rfl⟩ | ⟨t, rfl⟩
    · obtain ⟨_, _, xs, hown, hrs⟩ := h2
      refine ⟨xs, hrs, fun m u hu => ?_⟩
      have := hown.cells (g := b) (by rcases hown.2 with ⟨rfl, _⟩ | ⟨g, cap, cur, rfl, _⟩ <;> simp [vbase] at hb; subst hb; rfl) m u hu
      rw [add_addr] at this
      simpa using this
    · obtain ⟨_, _, b', us, rfl, hg, hrs⟩ := h2
      simp [vbase] at hb; subst hb
      refine ⟨us.toList, hrs, fun m u hu => ?_⟩
      rw [cell_of_row w b' m us t (0, 0) hg]
      simpa using hu
  obtain ⟨xs, hrs, hc⟩ := hcells
  have hlen : n * D.sz k + j + sz ≤ (D.flat k).length := by
    rw [D.flat_len]
    have : (n + 1) * D.sz k ≤ D.len k * D.sz k := Nat.mul_le_mul_right _ hn
    rw [Nat.succ_mul] at this
    omega
  refine ⟨(xs.drop (n * D.sz k + j)).take sz, by have := hrs.1; simp; omega, fun m u hu => ?_, ?_⟩
  · rw [List.getElem?_take] at hu
    split at hu
    · rw [List.getElem?_drop] at hu; exact hc _ u hu
    · cases hu
  · rw [cellsFrom_eq]
    refine ⟨by have := hrs.1; simp; omega, fun m x hx => ?_⟩
    rw [List.getElem?_map] at hx
    obtain ⟨m', hm', rfl⟩ := Option.map_eq_some_iff.1 hx
    have hms : m < sz := by
      rcases Nat.lt_or_ge m sz with h | h
      · exact h
      · rw [List.getElem?_eq_none (by simpa using h)] at hm'; cases hm'
    have : m' = m := by rw [List.getElem?_range hms] at hm'; injection hm' with hm'; exact hm'.symm
    subst this
    obtain ⟨y, hy, hr⟩ := hrs.2 _ _ (D.cell_eq k n (j + m') hn (by omega))
    refine ⟨y, by rw [List.getElem?_take, if_pos hms, List.getElem?_drop]; rw [← hy]; congr 1; omega, hr.mv D.toDom (Mv.refl _ _) fun i hi => ?_⟩
    obtain ⟨v, hv⟩ := hr.live D.toDom hi
    cases hv
end
end Go.Sy
