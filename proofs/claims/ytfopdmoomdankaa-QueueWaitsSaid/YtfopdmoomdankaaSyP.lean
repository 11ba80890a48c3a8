/- What an operation gives hangs only on its operands. -/
import Derived.Test.YtfopdmoomdankaaSyN
set_option linter.unusedVariables false
set_option linter.unusedSimpArgs false
namespace Go.Sy
open Go

def oO : Option O → List O | none => [] | some x => [x]
def I.opers : I → List O
  | .mv x => [x] | .pick c x y => [c, x, y] | .box _ x => [x] | .alloc _ => []
  | .build _ ps => ps.map (·.2.2)
  | .bsl _ _ _ ps => ps
  | .ld _ _ x => [x] | .sto _ x y => [x, y] | .nilc x => [x]
  | .bin _ x y => [x, y] | .eqb _ x y => [x, y] | .eqs _ x y => [x, y] | .eqn _ x => [x]
  | .nt x => [x] | .cv _ x => [x] | .b2s x => [x] | .mkf _ x => oO x
  | .mks _ _ _ l c => [l, c] | .slc _ x lo hi => x :: (oO lo ++ oO hi)
  | .fad _ x => [x] | .iad _ _ x i => [x, i] | .ext x _ => [x]
  | .callm f xs => f :: xs | .inv _ _ _ x xs => x :: xs | .mki _ x => [x] | .tas _ x => [x]
  | .call f xs => f :: xs | .len x => [x] | .app _ _ _ x y => [x, y] | .mx x y => [x, y] | .mn x y => [x, y]

section
variable {K : Type} {N : Hide} {D : Dx K} {R : List (Nat × Sp K)} {st st' : St K}

/-- The other state holds the same for these operands. -/
def Ag (st st' : St K) (l : List O) : Prop := ∀ x ∈ l, ev st' x = ev st x ∧ ∀ i, (ev st x).has i = true → ∀ ob, lk st.hp i = some ob → lk st'.hp i = some ob

theorem rowsOf_congr {sz : Nat} : ∀ {l : List O}, Ag st st' l → rowsOf st' sz l = rowsOf st sz l
  | [], _ => rfl
  | x :: r, h => by
    simp only [rowsOf, (h x (by simp)).1, rowsOf_congr (l := r) fun y hy => h y (by simp [hy])]
theorem fillA_congr : ∀ {l : List (Nat × Nat × O)} {cs : List (C K)}, Ag st st' (l.map (·.2.2)) → fillA st' cs l = fillA st cs l
  | [], _, _ => rfl
  | (off, n, x) :: r, cs, h => by
    have ih : ∀ cs, fillA st' cs r = fillA st cs r := fun cs => fillA_congr (l := r) (cs := cs) fun y hy => h y (by simp at hy ⊢; exact .inr hy)
    simp only [fillA, (h x (by simp)).1, ih]
theorem argsOf_congr : ∀ {l : List O} {nk : List (Option K)}, Ag st st' l → argsOf st' nk l = argsOf st nk l
  | [], _, _ => by simp only [argsOf]
  | x :: r, nk, h => by
    have ih : ∀ nk, argsOf st' nk r = argsOf st nk r := fun nk => argsOf_congr (l := r) fun y hy => h y (by simp [hy])
    simp only [argsOf, (h x (by simp)).1, ih]

theorem binV_uni {op : BinOp} {k : IntKind} {a b : Int} {q : Value → Prop} (h : binV N op k a b q) : ∃ v, q v ∧ ∀ q' : Value → Prop, q' v → binV N op k a b q' := by
  cases op <;> simp only [binV] at h ⊢
  all_goals first
    | exact h.elim
    | exact ⟨_, h.2, fun q' hq => ⟨h.1, hq⟩⟩
    | exact ⟨_, h, fun q' hq => hq⟩

theorem asm_uni {g : Bool} {ys : List (C K)} {q : A K → Prop} (h : asm g ys q) : ∃ x, q x ∧ ∀ q' : A K → Prop, q' x → asm g ys q' := by
  cases g
  · match ys, h with
    | [y], h => exact ⟨_, h, fun q' hq => hq⟩
    | [], h => exact h.elim
    | _ :: _ :: _, h => exact h.elim
  · exact ⟨_, h, fun q' hq => hq⟩

theorem vs_local {i : I} (hag : Ag st st' i.opers) {q : A K → Prop} (h : vs N D R st q i) : ∃ x, q x ∧ ∀ q' : A K → Prop, q' x → vs N D R st' q' i := by
  cases i with
  | mv x =>
    have e := (hag x (by simp [I.opers])).1
    exact ⟨_, h, fun q' hq => by simp only [vs, e]; exact hq⟩
  | pick c x y =>
    have e1 := (hag c (by simp [I.opers])).1
    have e2 := (hag x (by simp [I.opers])).1
    have e3 := (hag y (by simp [I.opers])).1
    simp only [vs] at h
    split at h
    · rename_i b hb
      cases b
      · exact ⟨_, h, fun q' hq => by simp only [vs, e1, e2, e3, hb]; exact hq⟩
      · exact ⟨_, h, fun q' hq => by simp only [vs, e1, e2, e3, hb]; exact hq⟩
    · exact h.elim
  | build T ps =>
    have e : ∀ cs, fillA st' cs ps = fillA st cs ps := fun cs => fillA_congr hag
    simp only [vs] at h
    split at h
    · rename_i T' cs hz
      split at h
      · rename_i cs' hf
        exact ⟨_, h, fun q' hq => by simp only [vs, hz, e, hf]; exact hq⟩
      · exact h.elim
    · exact h.elim
  | bsl own e sz ps =>
    have e1 : rowsOf st' sz ps = rowsOf st sz ps := rowsOf_congr hag
    simp only [vs] at h
    cases own with
    | true => exact h.elim
    | false =>
      simp only at h
      split at h
      · rename_i ls hls
        split at h
        · rename_i k hk
          exact ⟨_, h.2, fun q' hq => by simp only [vs, e1, hls, hk]; exact ⟨h.1, hq⟩⟩
        · exact h.elim
      · exact h.elim
  | ld g sz x =>
    obtain ⟨e, hh⟩ := hag x (by simp [I.opers])
    simp only [vs] at h
    split at h
    · rename_i i o hi
      split at h
      · rename_i t cs hob
        have hob' := hh i (by rw [hi]; simp [Sy.A.has, Sy.B.has, C.has]) _ hob
        split at h
        · rename_i hl
          obtain ⟨y, h1, h2⟩ := asm_uni h
          exact ⟨y, h1, fun q' hq => by simp only [vs, e, hi, hob', hl]; exact h2 q' hq⟩
        · exact h.elim
      · exact h.elim
    · rename_i i s n j hi
      split at h
      · rename_i t k hob
        have hob' := hh i (by rw [hi]; simp [Sy.A.has, Sy.B.has, C.has]) _ hob
        split at h
        · rename_i h1 h2
          obtain ⟨y, h3, h4⟩ := asm_uni h.2
          exact ⟨y, h3, fun q' hq => by simp only [vs, e, hi, hob', h1, h2]; exact ⟨h.1, h4 q' hq⟩⟩
        · exact h.elim
      · rename_i t k hob
        have hob' := hh i (by rw [hi]; simp [Sy.A.has, Sy.B.has, C.has]) _ hob
        split at h
        · rename_i h1 h2
          obtain ⟨y, h3, h4⟩ := asm_uni h.2
          exact ⟨y, h3, fun q' hq => by simp only [vs, e, hi, hob', h1, h2]; exact ⟨h.1, h4 q' hq⟩⟩
        · exact h.elim
      · exact h.elim
    · rename_i k n j hi
      split at h
      · rename_i h1
        obtain ⟨y, h3, h4⟩ := asm_uni h
        exact ⟨y, h3, fun q' hq => by simp only [vs, e, hi, h1]; exact h4 q' hq⟩
      · exact h.elim
    · rename_i k hi
      split at h
      · rename_i h1 h2
        obtain ⟨y, h3, h4⟩ := asm_uni h
        exact ⟨y, h3, fun q' hq => by simp only [vs, e, hi, h1, h2]; exact h4 q' hq⟩
      · exact h.elim
    · exact h.elim
  | nilc x =>
    have e := (hag x (by simp [I.opers])).1
    simp only [vs] at h
    split at h
    · rename_i i o hi
      exact ⟨_, h, fun q' hq => by simp only [vs, e, hi]; exact hq⟩
    · rename_i k hi
      split at h
      · rename_i hp
        exact ⟨_, h, fun q' hq => by simp only [vs, e, hi, hp]; exact hq⟩
      · exact h.elim
    · exact h.elim
  | bin op x y =>
    have e1 := (hag x (by simp [I.opers])).1
    have e2 := (hag y (by simp [I.opers])).1
    simp only [vs] at h
    split at h
    · rename_i k A k' B h1 h2
      split at h
      · obtain ⟨v, h3, h4⟩ := binV_uni h
        exact ⟨_, h3, fun q' hq => by simp only [vs, e1, e2, h1, h2]; exact h4 (fun v => q' (.b (.c (.v v)))) hq⟩
      · obtain ⟨v, h3, h4⟩ := binV_uni h
        exact ⟨_, h3, fun q' hq => by simp only [vs, e1, e2, h1, h2]; exact h4 (fun v => q' (.b (.c (.v v)))) hq⟩
      · rename_i opA opB bb g1 g2 hk
        obtain ⟨v, h3, h4⟩ := binV_uni h
        refine ⟨_, h3, fun q' hq => ?_⟩
        simp only [vs, e1, e2, h1, h2]
        rw [hk]
        cases opA <;> first | exact h4 (fun v => q' (.b (.c (.v v)))) hq | exact absurd rfl g1 | exact absurd rfl g2
      · exact h.elim
    · exact h.elim
  | eqb neg x y =>
    have e1 := (hag x (by simp [I.opers])).1
    have e2 := (hag y (by simp [I.opers])).1
    simp only [vs] at h
    split at h
    · rename_i A B h1 h2
      exact ⟨_, h, fun q' hq => by simp only [vs, e1, e2, h1, h2]; exact hq⟩
    · exact h.elim
  | eqs neg x y =>
    have e1 := (hag x (by simp [I.opers])).1
    have e2 := (hag y (by simp [I.opers])).1
    simp only [vs] at h
    split at h
    · rename_i A B h1 h2
      exact ⟨_, h, fun q' hq => by simp only [vs, e1, e2, h1, h2]; exact hq⟩
    · exact h.elim
  | eqn neg x =>
    have e := (hag x (by simp [I.opers])).1
    simp only [vs] at h
    split at h
    · rename_i hi
      exact ⟨_, h, fun q' hq => by simp only [vs, e, hi]; exact hq⟩
    · rename_i i o hi
      exact ⟨_, h, fun q' hq => by simp only [vs, e, hi]; exact hq⟩
    · rename_i k hi
      split at h
      · rename_i hp
        exact ⟨_, h, fun q' hq => by simp only [vs, e, hi, hp]; exact hq⟩
      · exact h.elim
    · exact h.elim
  | nt x =>
    have e := (hag x (by simp [I.opers])).1
    simp only [vs] at h
    split at h
    · rename_i b hi
      exact ⟨_, h, fun q' hq => by simp only [vs, e, hi]; exact hq⟩
    · exact h.elim
  | cv k x =>
    have e := (hag x (by simp [I.opers])).1
    simp only [vs] at h
    split at h
    · rename_i k' A hi
      exact ⟨_, h, fun q' hq => by simp only [vs, e, hi]; exact hq⟩
    · exact h.elim
  | b2s x =>
    have e := (hag x (by simp [I.opers])).1
    simp only [vs] at h
    split at h
    · rename_i k hi
      split at h
      · rename_i l hl
        exact ⟨_, h, fun q' hq => by simp only [vs, e, hi, hl]; exact hq⟩
      · exact h.elim
    · exact h.elim
  | mkf f x =>
    cases x with
    | none => exact ⟨_, h, fun q' hq => hq⟩
    | some x =>
      have e := (hag x (by simp [I.opers, oO])).1
      simp only [vs] at h
      split at h
      · rename_i k hi
        exact ⟨_, h, fun q' hq => by simp only [vs, e, hi]; exact hq⟩
      · exact h.elim
  | slc sz x lo hi =>
    have e := (hag x (by simp [I.opers])).1
    have e1 : ∀ y, lo = some y → ev st' y = ev st y := fun y hy => (hag y (by simp [I.opers, oO, hy])).1
    have e2 : ∀ y, hi = some y → ev st' y = ev st y := fun y hy => (hag y (by simp [I.opers, oO, hy])).1
    simp only [vs] at h
    split at h
    · rename_i k hk
      split at h
      · rename_i A B hp hsz hA hB
        split at h
        · rename_i k' hsub
          refine ⟨_, h.2.2, fun q' hq => ?_⟩
          have hA' : optI st' lo 0 = some A := by
            cases lo with
            | none => exact hA
            | some y => simp only [optI, e1 y rfl]; exact hA
          have hB' : optI st' hi (N.th fun _ => (D.len k : Int)) = some B := by
            cases hi with
            | none => exact hB
            | some y => simp only [optI, e2 y rfl]; exact hB
          simp only [vs, e, hk, hp, hsz, hA', hB', hsub]
          exact ⟨h.1, h.2.1, hq⟩
        · exact h.elim
      · exact h.elim
    · exact h.elim
  | fad off x =>
    have e := (hag x (by simp [I.opers])).1
    simp only [vs] at h
    split at h
    · rename_i i o hi
      exact ⟨_, h, fun q' hq => by simp only [vs, e, hi]; exact hq⟩
    · rename_i k n j hi
      exact ⟨_, h, fun q' hq => by simp only [vs, e, hi]; exact hq⟩
    · rename_i i s n j hi
      exact ⟨_, h, fun q' hq => by simp only [vs, e, hi]; exact hq⟩
    · rename_i k hi
      split at h
      · rename_i hp
        exact ⟨_, h, fun q' hq => by simp only [vs, e, hi, hp]; exact hq⟩
      · exact h.elim
    · exact h.elim
  | iad sz an x y =>
    obtain ⟨e1, hh⟩ := hag x (by simp [I.opers])
    have e2 := (hag y (by simp [I.opers])).1
    simp only [vs] at h
    split at h
    · rename_i k k' A h1 h2
      split at h
      · rename_i hp hsz han
        exact ⟨_, h.2, fun q' hq => by simp only [vs, e1, e2, h1, h2, hp, hsz, han]; exact ⟨h.1, hq⟩⟩
      · exact h.elim
    · rename_i i k' A h1 h2
      split at h
      · rename_i t k hob
        have hob' := hh i (by rw [h1]; simp [Sy.A.has, Sy.B.has, C.has]) _ hob
        split at h
        · rename_i hsz han
          exact ⟨_, h.2, fun q' hq => by simp only [vs, e1, e2, h1, h2, hob', hsz, han]; exact ⟨h.1, hq⟩⟩
        · exact h.elim
      · exact h.elim
    · rename_i i k' A h1 h2
      split at h
      · rename_i t k hob
        have hob' := hh i (by rw [h1]; simp [Sy.A.has, Sy.B.has, C.has]) _ hob
        split at h
        · rename_i hsz
          exact ⟨_, h.2, fun q' hq => by simp only [vs, e1, e2, h1, h2, hob', hsz]; exact ⟨h.1, hq⟩⟩
        · exact h.elim
      · exact h.elim
    · exact h.elim
  | ext x n =>
    have e := (hag x (by simp [I.opers])).1
    simp only [vs] at h
    split at h
    · rename_i xs hi
      split at h
      · rename_i b r hb
        exact ⟨_, h, fun q' hq => by simp only [vs, e, hi, hb]; exact hq⟩
      · exact h.elim
    · exact h.elim
  | call f xs =>
    have e := (hag f (by simp [I.opers])).1
    have e1 : ∀ nk, argsOf st' nk xs = argsOf st nk xs := fun nk => argsOf_congr fun y hy => hag y (by simp [I.opers, hy])
    simp only [vs] at h
    split at h
    · rename_i n bk hi
      split at h
      · rename_i s hs
        split at h
        · rename_i l hl
          split at h
          · rename_i pre r har hsp
            exact ⟨_, h.2, fun q' hq => by simp only [vs, e, hi, hs, e1, hl, har, hsp]; exact ⟨h.1, hq⟩⟩
          · exact h.elim
        · exact h.elim
      · exact h.elim
    · exact h.elim
  | len x =>
    obtain ⟨e, hh⟩ := hag x (by simp [I.opers])
    simp only [vs] at h
    split at h
    · rename_i k hi
      split at h
      · rename_i hp
        exact ⟨_, h, fun q' hq => by simp only [vs, e, hi, hp]; exact hq⟩
      · exact h.elim
    · rename_i i hi
      split at h
      · rename_i t k hob
        have hob' := hh i (by rw [hi]; simp [Sy.A.has, Sy.B.has, C.has]) _ hob
        exact ⟨_, h, fun q' hq => by simp only [vs, e, hi, hob']; exact hq⟩
      · exact h.elim
    · rename_i hi
      exact ⟨_, h, fun q' hq => by simp only [vs, e, hi]; exact hq⟩
    · exact h.elim
  | mx x y =>
    have e1 := (hag x (by simp [I.opers])).1
    have e2 := (hag y (by simp [I.opers])).1
    simp only [vs] at h
    split at h
    · rename_i k A k' B h1 h2
      exact ⟨_, h, fun q' hq => by simp only [vs, e1, e2, h1, h2]; exact hq⟩
    · exact h.elim
  | mn x y =>
    have e1 := (hag x (by simp [I.opers])).1
    have e2 := (hag y (by simp [I.opers])).1
    simp only [vs] at h
    split at h
    · rename_i k A k' B h1 h2
      exact ⟨_, h, fun q' hq => by simp only [vs, e1, e2, h1, h2]; exact hq⟩
    · exact h.elim
  | mki T x =>
    have e := (hag x (by simp [I.opers])).1
    simp only [vs] at h
    split at h
    · rename_i i o hx
      exact ⟨_, h, fun q' hq => by simp only [vs, e, hx]; exact hq⟩
    · rename_i cs hx
      split at h
      · rename_i us hus
        exact ⟨_, h, fun q' hq => by simp only [vs, e, hx, hus]; exact hq⟩
      · exact h.elim
    · exact h.elim
  | tas T x =>
    have e := (hag x (by simp [I.opers])).1
    simp only [vs] at h
    split at h
    · rename_i U us hx
      split at h
      · rename_i h1 h2
        exact ⟨_, h, fun q' hq => by simp only [vs, e, hx, h1, h2]; exact hq⟩
      · exact h.elim
    · exact h.elim
  | callm _ _ => exact h.elim
  | inv _ _ _ _ _ => exact h.elim
  | box _ _ => exact h.elim
  | alloc _ => exact h.elim
  | sto _ _ _ => exact h.elim
  | mks _ _ _ _ _ => exact h.elim
  | app _ _ _ _ _ => exact h.elim

theorem os_local {i : I} (hag : Ag st st' i.opers) {q : Ob K → Prop} (h : os N D st q i) : ∃ x, q x ∧ ∀ q' : Ob K → Prop, q' x → os N D st' q' i := by
  cases i with
  | box T x =>
    have e := (hag x (by simp [I.opers])).1
    simp only [os] at h
    split at h
    · rename_i b hb
      exact ⟨_, h, fun q' hq => by simp only [os, e, hb]; exact hq⟩
    · exact h.elim
  | alloc T =>
    simp only [os] at h
    split at h
    · rename_i ob hz
      exact ⟨_, h, fun q' hq => by simp only [os, hz]; exact hq⟩
    · exact h.elim
  | bsl own e sz ps =>
    have e1 : rowsOf st' sz ps = rowsOf st sz ps := rowsOf_congr hag
    simp only [os] at h
    cases own with
    | false => exact h.elim
    | true =>
      simp only at h
      split at h
      · rename_i ls hls
        split at h
        · rename_i k hk
          exact ⟨_, h.2, fun q' hq => by simp only [os, e1, hls, hk]; exact ⟨h.1, hq⟩⟩
        · exact h.elim
      · exact h.elim
  | mks e sz by_ l c =>
    have e1 := (hag l (by simp [I.opers])).1
    have e2 := (hag c (by simp [I.opers])).1
    simp only [os] at h
    split at h
    · rename_i k1 A k2 B h1 h2
      split at h
      · rename_i k hk hl
        exact ⟨_, h.2.2, fun q' hq => by simp only [os, e1, e2, h1, h2, hk, hl]; exact ⟨h.1, h.2.1, hq⟩⟩
      · exact h.elim
    · exact h.elim
  | _ => exact h.elim
end
end Go.Sy
