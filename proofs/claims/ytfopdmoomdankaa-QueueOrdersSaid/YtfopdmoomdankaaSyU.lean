/- The reading of loaded code, by a program that is proved right. -/
import Derived.Test.YtfopdmoomdankaaSyT
set_option linter.unusedVariables false
set_option linter.unusedSimpArgs false
namespace Go.Sy
open Go

inductive Gh | frz (x : O) | frzb (x : O) | nil (t d : Nat) (e : TypeId) | nilb (x : O) (j d : Nat) (e : TypeId)
/-- What is to be known beside the code: of a region: what stands ahead of it; which literals are own rows (for the whole body). -/
structure Hint where
  pre : List (Nat × List Gh) := []
  post : List (Nat × List Gh) := []
  own : List Nat := []
  lent : List Nat := []
  ifc : List (String × TypeId) := []

def isMut (H : Hint) : O → Bool | .f n => memB n H.lent | _ => false
def lkS (name : String) : List (String × TypeId) → Option TypeId
  | [] => none
  | (s, T) :: r => match s == name with | true => some T | false => lkS name r

def compOp (P : Program) (own : Bool) (H : Hint) : Op → Option I
  | .move x => (cO x).map .mv
  | .assign x => (cO x).map .mv
  | .pick c x y => match cO c, cO x, cO y with | some c, some x, some y => some (.pick c x y) | _, _, _ => none
  | .box T x => (cO x).map (.box T)
  | .alloc T => some (.alloc T)
  | .build T ps => match plT P T with | some pl => (cParts pl ps.toList).map (.build T) | none => none
  | .buildSlice T n ps => match slE P T with
    | some e => (match szT P e, elemAt 0 ps.toList with
      | some sz, some xs => (match len 1 sz, zT P e, eqn n ps.size, len (n * sz) 16777216 with
        | true, true, true, true => (cOs xs).map (.bsl own e sz)
        | _, _, _, _ => none)
      | _, _ => none)
    | none => none
  | .load T a => match aggT P T, szT P T, cO a with | some g, some sz, some a => some (.ld g sz a) | _, _, _ => none
  | .store T a x => match szT P T, cO a, cO x with | some sz, some a, some x => some (.sto sz a x) | _, _, _ => none
  | .nilCheck x => (cO x).map .nilc
  | .binOp op T x y _ => match isInt P T with
    | true => (match cO x, cO y with | some x, some y => some (.bin op x y) | _, _ => none)
    | false => (match boolT P T with
      | true => (match op, cO x, cO y with
        | .eql, some x, some y => some (.eqb false x y)
        | .neq, some x, some y => some (.eqb true x y)
        | _, _, _ => none)
      | false => (match strT P T with
        | true => (match op, cO x, cO y with
          | .eql, some x, some y => some (.eqs false x y)
          | .neq, some x, some y => some (.eqs true x y)
          | _, _, _ => none)
        | false => (match ptrT P T with
          | true => (match op, cO x, y with
            | .eql, some x, .const (.pointer none) => some (.eqn false x)
            | .neq, some x, .const (.pointer none) => some (.eqn true x)
            | _, _, _ => none)
          | false => none)))
  | .unOp .not _ x => (cO x).map .nt
  | .convert s d x => match intT P d with
    | some k => (match (P.underlying s).isSome, cO x with | true, some x => some (.cv k x) | _, _ => none)
    | none => (match strT P d, slE P s, cO x with
      | true, some e, some x => (match intT P e with | some .u8 => some (.b2s x) | _ => none)
      | _, _, _ => none)
  | .makeFunc (.func f) ⟨[]⟩ ⟨[]⟩ => some (.mkf f none)
  | .makeFunc (.func f) ⟨[x]⟩ ⟨[]⟩ => (cO x).map fun x => .mkf f (some x)
  | .makeSlice T l c => match slE P T with
    | some e => (match szT P e, byT P e, cO l, cO c with | some sz, some b, some l, some c => some (.mks e sz b l c) | _, _, _, _ => none)
    | none => none
  | .slice T x lo hi none => match slE P T with
    | some e => (match szT P e, cO x, cOo lo, cOo hi with | some sz, some x, some lo, some hi => some (.slc sz x lo hi) | _, _, _, _ => none)
    | none => none
  | .fieldAddr T x i => match fldT P T i, cO x with | some (off, _ + 1), some x => some (.fad off x) | _, _ => none
  | .indexAddr T x i => match ixT P T, cO x, cO i with | some (sz, an), some x, some i => some (.iad sz an x i) | _, _, _ => none
  | .extract x i => (cO x).map fun x => .ext x i
  | .makeInterface T x => match notIfc P T with | true => (cO x).map (.mki T) | false => none
  | .typeAssert x _ T c => match c, notIfc P T with | true, true => (cO x).map (.tas T) | _, _ => none
  | .call c => match c.callee with
    | .value f => (match cO f, cOs c.args.toList with
      | some f, some xs => (match isMut H f with | true => some (.callm f xs) | false => some (.call f xs))
      | _, _ => none)
    | .invoke x name => (match lkS name H.ifc with
      | some T => (match mthT P T name, cO x, cOs c.args.toList with
        | some (n, ld), some x, some xs => some (.inv T n ld x xs)
        | _, _, _ => none)
      | none => none)
    | .builtin .len => (match c.args, c.argTypes with
      | ⟨[x]⟩, ⟨[T]⟩ => (match slE P T, cO x with | some _, some x => some (.len x) | _, _ => none)
      | _, _ => none)
    | .builtin .append => (match c.args, c.argTypes with
      | ⟨[x, y]⟩, ⟨[T, U]⟩ => (match eqn T U, slE P T with
        | true, some e => (match szT P e, byT P e, zsT P e, cO x, cO y with
          | some (n + 1), some b, true, some x, some y => some (.app e (n + 1) b x y)
          | _, _, _, _, _ => none)
        | _, _ => none)
      | _, _ => none)
    | .builtin .max => (match c.args with | ⟨[x, y]⟩ => (match cO x, cO y with | some x, some y => some (.mx x y) | _, _ => none) | _ => none)
    | .builtin .min => (match c.args with | ⟨[x, y]⟩ => (match cO x, cO y with | some x, some y => some (.mn x y) | _, _ => none) | _ => none)
    | _ => none
  | _ => none

theorem compOp_ok {P : Program} {own : Bool} {H : Hint} {o : Op} {i : I} (h : compOp P own H o = some i) : Cmp P o i := by
  unfold compOp at h
  split at h
  · obtain ⟨y, h1, rfl⟩ := Option.map_eq_some_iff.1 h; exact .mv (cO_co h1)
  · obtain ⟨y, h1, rfl⟩ := Option.map_eq_some_iff.1 h; exact .asg (cO_co h1)
  · split at h
    · injection h with h; subst h; exact .pick (cO_co ‹_›) (cO_co ‹_›) (cO_co ‹_›)
    · cases h
  · obtain ⟨y, h1, rfl⟩ := Option.map_eq_some_iff.1 h; exact .box (cO_co h1)
  · injection h with h; subst h; exact .alloc
  · split at h
    · obtain ⟨y, h1, rfl⟩ := Option.map_eq_some_iff.1 h; exact .build ‹_› (cParts_co h1)
    · cases h
  · split at h
    · split at h
      · split at h
        · rename_i h1 h2 h3 h4
          obtain ⟨y, h5, rfl⟩ := Option.map_eq_some_iff.1 h
          exact .bsl ‹_› ‹_› (len_true h1) h2 (eqn_true h3) (by have := len_true h4; omega) ‹_› (cOs_co h5)
        · cases h
      · cases h
    · cases h
  · split at h
    · injection h with h; subst h; exact .ld ‹_› ‹_› (cO_co ‹_›)
    · cases h
  · split at h
    · injection h with h; subst h; exact .sto ‹_› (cO_co ‹_›) (cO_co ‹_›)
    · cases h
  · obtain ⟨y, h1, rfl⟩ := Option.map_eq_some_iff.1 h; exact .nilc (cO_co h1)
  · split at h
    · split at h
      · injection h with h; subst h; exact .bin ‹_› (cO_co ‹_›) (cO_co ‹_›)
      · cases h
    · split at h
      · split at h
        · injection h with h; subst h; exact .eqb ‹_› (cO_co ‹_›) (cO_co ‹_›)
        · injection h with h; subst h; exact .neb ‹_› (cO_co ‹_›) (cO_co ‹_›)
        · cases h
      · split at h
        · split at h
          · injection h with h; subst h; exact .eqs ‹_› (cO_co ‹_›) (cO_co ‹_›)
          · injection h with h; subst h; exact .nes ‹_› (cO_co ‹_›) (cO_co ‹_›)
          · cases h
        · split at h
          · split at h
            · injection h with h; subst h; exact .eqn ‹_› (cO_co ‹_›)
            · injection h with h; subst h; exact .nen ‹_› (cO_co ‹_›)
            · cases h
          · cases h
  · obtain ⟨y, h1, rfl⟩ := Option.map_eq_some_iff.1 h; exact .nt (cO_co h1)
  · split at h
    · split at h
      · injection h with h; subst h; exact .cv ‹_› ‹_› (cO_co ‹_›)
      · cases h
    · split at h
      · split at h
        · injection h with h; subst h; exact .b2s ‹_› ‹_› ‹_› (cO_co ‹_›)
        · cases h
      · cases h
  · injection h with h; subst h; exact .mkf0
  · obtain ⟨y, h1, rfl⟩ := Option.map_eq_some_iff.1 h; exact .mkf1 (cO_co h1)
  · split at h
    · split at h
      · injection h with h; subst h; exact .mks ‹_› ‹_› ‹_› (cO_co ‹_›) (cO_co ‹_›)
      · cases h
    · cases h
  · split at h
    · split at h
      · injection h with h; subst h; exact .slc ‹_› ‹_› (cO_co ‹_›) (cOo_co ‹_›) (cOo_co ‹_›)
      · cases h
    · cases h
  · split at h
    · injection h with h; subst h; exact .fad ‹_› (cO_co ‹_›)
    · cases h
  · split at h
    · injection h with h; subst h; exact .iad ‹_› (cO_co ‹_›) (cO_co ‹_›)
    · cases h
  · obtain ⟨y, h1, rfl⟩ := Option.map_eq_some_iff.1 h; exact .ext (cO_co h1)
  · split at h
    · obtain ⟨y, h1, rfl⟩ := Option.map_eq_some_iff.1 h; exact .mki ‹_› (cO_co h1)
    · cases h
  · split at h
    · obtain ⟨y, h1, rfl⟩ := Option.map_eq_some_iff.1 h; exact .tas ‹_› (cO_co h1)
    · cases h
  · rename_i c
    obtain ⟨callee, args, argTypes⟩ := c
    simp only at h
    split at h
    · split at h
      · split at h
        · injection h with h; subst h; exact .callm (cO_co ‹_›) (cOs_co ‹_›)
        · injection h with h; subst h; exact .call (cO_co ‹_›) (cOs_co ‹_›)
      · cases h
    · split at h
      · split at h
        · injection h with h; subst h; exact .inv ‹_› (cO_co ‹_›) (cOs_co ‹_›)
        · cases h
      · cases h
    · split at h
      · split at h
        · injection h with h; subst h; exact .len ‹_› (cO_co ‹_›)
        · cases h
      · cases h
    · split at h
      · split at h
        · rename_i hTU _
          have hTU := eqn_true hTU
          subst hTU
          split at h
          · injection h with h; subst h; exact .app ‹_› ‹_› (Nat.succ_pos _) ‹_› ‹_› (cO_co ‹_›) (cO_co ‹_›)
          · cases h
        · cases h
      · cases h
    · split at h
      · split at h
        · injection h with h; subst h; exact .mx (cO_co ‹_›) (cO_co ‹_›)
        · cases h
      · cases h
    · split at h
      · split at h
        · injection h with h; subst h; exact .mn (cO_co ‹_›) (cO_co ‹_›)
        · cases h
      · cases h
    · cases h
  · cases h

def isSto : I → Bool | .sto _ _ _ => true | _ => false
def ltO (nt : Nat) : Option Nat → Bool | none => true | some t => ltn t nt
def compG (ops : Array Oper) : Option (Nat × Bool) → Option (Option (Nat × Bool))
  | none => some none
  | some (j, b) => match (ops[j]?).bind (·.dst) with | some t => some (some (t, b)) | none => none
def ownOf (own : List Nat) : Option Nat → Bool | none => false | some d => memB d own
def compO (P : Program) (nt : Nat) (ops : Array Oper) (H : Hint) (o : Oper) : Option SO :=
  match compOp P (ownOf H.own o.dst) H o.op, compG ops o.guard, ltO nt o.dst with
  | some i, some g, true => (match isSto i, o.dst with | true, some _ => none | _, _ => some { d := o.dst, g := g, i := i })
  | _, _, _ => none
def compOs (P : Program) (nt : Nat) (ops : Array Oper) (H : Hint) : List Oper → Option (List SO)
  | [] => some []
  | o :: r => match compO P nt ops H o, compOs P nt ops H r with | some s, some l => some (s :: l) | _, _ => none

theorem compO_ok {P : Program} {nt : Nat} {ops : Array Oper} {H : Hint} {o : Oper} {s : SO} (h : compO P nt ops H o = some s) : CmpO P nt ops o s := by
  unfold compO at h
  split at h
  · rename_i i g h1 h2 h3
    have hg : gOk ops o g := by
      unfold compG at h2
      unfold gOk
      split at h2
      · injection h2 with h2; subst h2; rename_i hg; rw [hg]; trivial
      · rename_i j b hg
        split at h2
        · injection h2 with h2; subst h2; rw [hg]; exact ⟨‹_›, rfl⟩
        · cases h2
    have hlt : ∀ t, o.dst = some t → t < nt := fun t ht => by
      rw [ht] at h3
      simp only [ltO] at h3
      exact ltn_true h3
    split at h
    · cases h
    · rename_i hns
      injection h with h; subst h
      refine ⟨compOp_ok h1, rfl, hg, hlt, fun sz x y hs => ?_⟩
      simp only at hs
      subst hs
      cases hd : o.dst with
      | none => rfl
      | some d => exact (hns d rfl hd).elim
  · cases h
theorem compOs_ok {P : Program} {nt : Nat} {ops : Array Oper} {H : Hint} : ∀ {l : List Oper} {m : List SO}, compOs P nt ops H l = some m → CmpOs P nt ops l m
  | [], m, h => by simp only [compOs, Option.some.injEq] at h; subst h; exact .nil
  | o :: l, m, h => by
    simp only [compOs] at h
    split at h
    · injection h with h; subst h; exact .cons (compO_ok ‹_›) (compOs_ok ‹_›)
    · cases h

/-! ### Regions that draw their order -/
inductive Anc (ops : Array Oper) : Nat → Nat → Prop
  | edge {i : Nat} {o : Oper} {e : Edge} : ops[i]? = some o → e ∈ o.after → Region.binds .any e = true → Anc ops i e.on
  | trans {i j : Nat} {o : Oper} {e : Edge} : ops[i]? = some o → e ∈ o.after → Region.binds .any e = true → Anc ops e.on j → Anc ops i j

/-- Which operations an operation waits for: bits. -/
def ancE (acc : List Nat) : List Edge → Nat
  | [] => 0
  | e :: r => match Region.binds .any e with
    | true => 2 ^ e.on ||| acc.getD e.on 0 ||| ancE acc r
    | false => ancE acc r
def ancs : List Oper → List Nat → List Nat
  | [], acc => acc
  | o :: r, acc => ancs r (acc ++ [ancE acc o.after.toList])

theorem ancE_ok {ops : Array Oper} {acc : List Nat} (hacc : ∀ i j, (acc.getD i 0).testBit j = true → Anc ops i j) {i : Nat} {o : Oper} (ho : ops[i]? = some o) : ∀ {l : List Edge}, (∀ e ∈ l, e ∈ o.after) → ∀ j, (ancE acc l).testBit j = true → Anc ops i j
  | [], _, j, h => by simp [ancE] at h
  | e :: r, hl, j, h => by
    simp only [ancE] at h
    split at h
    · rename_i hb
      rw [Nat.testBit_or, Nat.testBit_or, Bool.or_eq_true, Bool.or_eq_true] at h
      rcases h with (h | h) | h
      · rw [Nat.testBit_two_pow] at h
        have : e.on = j := by simpa using h
        subst this
        exact .edge ho (hl e (by simp)) hb
      · exact .trans ho (hl e (by simp)) hb (hacc _ _ h)
      · exact ancE_ok hacc ho (fun e he => hl e (by simp [he])) j h
    · exact ancE_ok hacc ho (fun e he => hl e (by simp [he])) j h

theorem ancs_ok {ops : Array Oper} : ∀ (l : List Oper) (acc : List Nat), (∀ j, l[j]? = ops[acc.length + j]?) → (∀ i j, (acc.getD i 0).testBit j = true → Anc ops i j) → ∀ i j, ((ancs l acc).getD i 0).testBit j = true → Anc ops i j
  | [], acc, _, hacc => hacc
  | o :: r, acc, hl, hacc => by
    have ho : ops[acc.length]? = some o := by have := hl 0; simpa using this.symm
    refine ancs_ok r _ (fun j => ?_) fun i j h => ?_
    · have := hl (j + 1)
      simp only [List.getElem?_cons_succ] at this
      rw [this]; simp only [List.length_append, List.length_cons, List.length_nil]; congr 1; omega
    · by_cases hi : i < acc.length
      · rw [List.getD_eq_getElem?_getD, List.getElem?_append_left hi, ← List.getD_eq_getElem?_getD] at h
        exact hacc i j h
      · by_cases hi2 : i = acc.length
        · subst hi2
          rw [List.getD_eq_getElem?_getD, List.getElem?_append_right (Nat.le_refl _)] at h
          simp only [Nat.sub_self, List.getElem?_cons_zero, Option.getD_some] at h
          exact ancE_ok hacc ho (fun e he => Array.mem_toList_iff.1 he) j h
        · rw [List.getD_eq_getElem?_getD, List.getElem?_eq_none (by simp; omega)] at h
          simp at h

/-- Everything ahead of i is waited for. -/
def allBits (b : Nat) : Nat → Bool
  | 0 => true
  | j + 1 => match b.testBit j with | true => allBits b j | false => false
theorem allBits_ok {b : Nat} : ∀ {n : Nat}, allBits b n = true → ∀ j, j < n → b.testBit j = true
  | 0, _, j, hj => absurd hj (Nat.not_lt_zero _)
  | n + 1, h, j, hj => by
    simp only [allBits] at h
    split at h
    · rcases Nat.lt_or_ge j n with h1 | h1
      · exact allBits_ok h j h1
      · have : j = n := by omega
        subst this; assumption
    · cases h
def tailB (as : List Nat) (n : Nat) : Nat → Bool   -- the operations n, n-1, .. behind the first ones
  | 0 => true
  | c + 1 => match allBits (as.getD (n - (c + 1)) 0) (n - (c + 1)) with | true => tailB as n c | false => false
theorem tailB_ok {as : List Nat} {n : Nat} : ∀ {c : Nat}, tailB as n c = true → ∀ i, n - c ≤ i → i < n → ∀ j, j < i → (as.getD i 0).testBit j = true
  | 0, _, i, h1, h2, _, _ => by omega
  | c + 1, h, i, h1, h2, j, hj => by
    simp only [tailB] at h
    split at h
    · rename_i hb
      rcases Nat.lt_or_ge i (n - c) with h3 | h3
      · have : i = n - (c + 1) := by omega
        subst this
        exact allBits_ok hb j hj
      · exact tailB_ok h i h3 h2 j hj
    · cases h

def backE (i : Nat) : List Edge → Bool
  | [] => true
  | e :: r => match Region.binds .any e, ltn e.on i with | true, false => false | _, _ => backE i r
def backB : Nat → List Oper → Bool
  | _, [] => true
  | i, o :: r => match backE i o.after.toList with | true => backB (i + 1) r | false => false
theorem backE_ok {i : Nat} : ∀ {l : List Edge}, backE i l = true → ∀ e ∈ l, Region.binds .any e = true → e.on < i
  | [], _, e, he, _ => by cases he
  | e0 :: r, h, e, he, hb => by
    simp only [backE] at h
    split at h
    · cases h
    · rename_i hne
      rcases List.mem_cons.1 he with rfl | he
      · cases hlt : ltn e.on i with
        | true => exact ltn_true hlt
        | false => exact (hne hb hlt).elim
      · exact backE_ok h e he hb
theorem backB_ok : ∀ {l : List Oper} {i : Nat}, backB i l = true → ∀ j o, l[j]? = some o → ∀ e ∈ o.after, Region.binds .any e = true → e.on < i + j
  | [], i, _, j, o, hj => by simp at hj
  | o0 :: r, i, h, j, o, hj => by
    simp only [backB] at h
    split at h
    · cases j with
      | zero => simp at hj; subst hj; intro e he hb; exact backE_ok ‹_› e (Array.mem_toList_iff.2 he) hb
      | succ j =>
        intro e he hb
        have := backB_ok (i := i + 1) h j o (by simpa using hj) e he hb
        omega
    · cases h

/-- Who of the first ones writes t: nobody but one ahead that is waited for at once. -/
def edgeB (j : Nat) : List Edge → Bool
  | [] => false
  | e :: r => match Region.binds .any e, eqn e.on j with | true, true => true | _, _ => edgeB j r
theorem edgeB_ok {j : Nat} : ∀ {l : List Edge}, edgeB j l = true → ∃ e ∈ l, Region.binds .any e = true ∧ e.on = j
  | [], h => by cases h
  | e0 :: r, h => by
    simp only [edgeB] at h
    split at h
    · exact ⟨e0, by simp, ‹_›, eqn_true ‹_›⟩
    · obtain ⟨e, h1, h2⟩ := edgeB_ok h; exact ⟨e, by simp [h1], h2⟩
def readT (i : Nat) (es : List Edge) (t : Nat) : Nat → List SO → Bool
  | _, [] => true
  | j, s :: r => match (match s.d with | some u => eqn u t | none => false) with
    | false => readT i es t (j + 1) r
    | true => (match ltn j i, edgeB j es with | true, true => readT i es t (j + 1) r | _, _ => false)
theorem readT_ok {i t : Nat} {es : List Edge} : ∀ {l : List SO} {j0 : Nat}, readT i es t j0 l = true → ∀ (j : Nat) (s : SO), l[j]? = some s → s.d = some t → j0 + j < i ∧ ∃ e ∈ es, Region.binds .any e = true ∧ e.on = j0 + j
  | [], j0, _, j, s, hj => by simp at hj
  | s0 :: r, j0, h, j, s, hj => by
    intro hd
    simp only [readT] at h
    cases j with
    | zero =>
      simp at hj; subst hj
      rw [hd] at h
      simp only [eqn_self] at h
      split at h
      · rename_i h1 h2
        exact ⟨ltn_true h1, edgeB_ok h2⟩
      · cases h
    | succ j =>
      have hr : readT i es t (j0 + 1) r = true := by
        split at h
        · exact h
        · split at h
          · exact h
          · cases h
      have := readT_ok (j0 := j0 + 1) hr j s (by simpa using hj) hd
      rw [Nat.add_right_comm, Nat.add_assoc] at this
      exact this
def readO (i : Nat) (es : List Edge) (sl : List SO) : List O → Bool
  | [] => true
  | .t t :: r => match readT i es t 0 sl with | true => readO i es sl r | false => false
  | _ :: r => readO i es sl r
theorem readO_ok {i : Nat} {es : List Edge} {sl : List SO} : ∀ {l : List O}, readO i es sl l = true → ∀ t, O.t t ∈ l → readT i es t 0 sl = true
  | [], _, t, ht => by cases ht
  | .t u :: r, h, t, ht => by
    simp only [readO] at h
    split at h
    · rcases List.mem_cons.1 ht with e | ht
      · injection e with e; subst e; assumption
      · exact readO_ok h t ht
    · cases h
  | .k x :: r, h, t, ht => by
    rcases List.mem_cons.1 ht with e | ht
    · cases e
    · exact readO_ok (l := r) h t ht
  | .f n :: r, h, t, ht => by
    rcases List.mem_cons.1 ht with e | ht
    · cases e
    · exact readO_ok (l := r) h t ht
def gO : Option (Nat × Bool) → List O | none => [] | some (t, _) => [.t t]
def readB (sl : List SO) : Nat → List Oper → List SO → Bool
  | _, [], _ => true
  | _, _, [] => true
  | i, o :: r, s :: l => match readO i o.after.toList sl s.i.opers, readO i o.after.toList sl (gO s.g) with | true, true => readB sl (i + 1) r l | _, _ => false
theorem readB_ok {sl : List SO} : ∀ {r : List Oper} {l : List SO} {i : Nat}, readB sl i r l = true → ∀ (j : Nat) (o : Oper) (s : SO), r[j]? = some o → l[j]? = some s → ∀ t, (O.t t ∈ s.i.opers ∨ ∃ b, s.g = some (t, b)) → readT (i + j) o.after.toList t 0 sl = true
  | [], _, i, _, j, o, s, hj, _ => by simp at hj
  | _ :: _, [], i, _, j, o, s, _, hs => by simp at hs
  | o0 :: r, s0 :: l, i, h, j, o, s, hj, hs => by
    intro t ht
    simp only [readB] at h
    split at h
    · rename_i h1 h2
      cases j with
      | zero =>
        simp at hj hs; subst hj; subst hs
        rcases ht with ht | ⟨b, ht⟩
        · exact readO_ok h1 t ht
        · exact readO_ok h2 t (by rw [ht]; simp [gO])
      | succ j =>
        have := readB_ok (i := i + 1) h j o s (by simpa using hj) (by simpa using hs) t ht
        rw [Nat.add_right_comm, Nat.add_assoc] at this
        exact this
    · cases h
def noD (d : Option Nat) : List SO → Bool
  | [] => true
  | s :: r => match (match s.d, d with | some u, some v => eqn u v | _, _ => false) with | true => false | false => noD d r
def distB : List SO → Bool
  | [] => true
  | s :: r => match noD s.d r with | true => distB r | false => false
theorem noD_ok {t : Nat} : ∀ {l : List SO}, noD (some t) l = true → ∀ (j : Nat) (s : SO), l[j]? = some s → s.d ≠ some t
  | [], _, j, s, hj => by simp at hj
  | s0 :: r, h, j, s, hj => by
    intro hd
    simp only [noD] at h
    split at h
    · cases h
    · rename_i hne
      cases j with
      | zero => simp at hj; subst hj; rw [hd] at hne; simp at hne
      | succ j => exact noD_ok h j s (by simpa using hj) hd
theorem distB_ok : ∀ {l : List SO}, distB l = true → ∀ (i j : Nat) (si sj : SO) (t : Nat), l[i]? = some si → l[j]? = some sj → si.d = some t → sj.d = some t → i = j
  | [], _, i, j, si, sj, t, hi, _ => by simp at hi
  | s0 :: r, h, i, j, si, sj, t, hi, hj => by
    intro h1 h2
    simp only [distB] at h
    split at h
    · rename_i hn
      cases i with
      | zero =>
        simp at hi; subst hi
        cases j with
        | zero => rfl
        | succ j => rw [h1] at hn; exact (noD_ok hn j sj (by simpa using hj) h2).elim
      | succ i =>
        cases j with
        | zero => simp at hj; subst hj; rw [h2] at hn; exact (noD_ok hn i si (by simpa using hi) h1).elim
        | succ j => rw [distB_ok h i j si sj t (by simpa using hi) (by simpa using hj) h1 h2]
    · cases h

/-- Moves for which not all of the tail waits. -/
def missB (as : List Nat) (j : Nat) : Nat → Nat → Bool
  | _, 0 => false
  | i, c + 1 => match (as.getD i 0).testBit j with | true => missB as j (i + 1) c | false => true
def flsOf (as : List Nat) (m n : Nat) : Nat → List SO → List (Nat × (Nat × Nat))
  | _, [] => []
  | j, s :: r => match s with
    | ⟨some d, none, .mv (.t x)⟩ => (match missB as j m (n - m) with | true => (j, (d, x)) :: flsOf as m n (j + 1) r | false => flsOf as m n (j + 1) r)
    | _ => flsOf as m n (j + 1) r
theorem flsOf_ok {as : List Nat} {m n j d x : Nat} : ∀ {l : List SO} {j0 : Nat}, lk (flsOf as m n j0 l) j = some (d, x) → ∃ k, j = j0 + k ∧ l[k]? = some ⟨some d, none, .mv (.t x)⟩
  | [], j0, h => by simp [flsOf, lk] at h
  | s :: r, j0, h => by
    simp only [flsOf] at h
    split at h
    · rename_i d' x'
      split at h
      · by_cases hj : j = j0
        · subst hj
          rw [lk_cons_same] at h; injection h with h; injection h with e1 e2; subst e1; subst e2
          exact ⟨0, rfl, rfl⟩
        · rw [lk_cons_other hj] at h
          obtain ⟨k, h1, h2⟩ := flsOf_ok h
          exact ⟨k + 1, by omega, by simpa using h2⟩
      · obtain ⟨k, h1, h2⟩ := flsOf_ok h
        exact ⟨k + 1, by omega, by simpa using h2⟩
    · obtain ⟨k, h1, h2⟩ := flsOf_ok h
      exact ⟨k + 1, by omega, by simpa using h2⟩
def noDst (x : Nat) : List (Nat × (Nat × Nat)) → Bool
  | [] => true
  | (_, (d, _)) :: r => match eqn d x with | true => false | false => noDst x r
theorem noDst_ok {x j d y : Nat} : ∀ {l : List (Nat × (Nat × Nat))}, noDst x l = true → lk l j = some (d, y) → d ≠ x
  | [], _, h => by simp [lk] at h
  | (j0, (d0, y0)) :: r, hn, h => by
    simp only [noDst] at hn
    split at hn
    · cases hn
    · rename_i hb
      by_cases hj : j = j0
      · subst hj
        rw [lk_cons_same] at h; injection h with h; injection h with e1 e2; subst e1
        exact fun e => by subst e; simp at hb
      · rw [lk_cons_other hj] at h; exact noDst_ok hn h
def srcOk (F : List (Nat × (Nat × Nat))) : List (Nat × (Nat × Nat)) → Bool
  | [] => true
  | (_, (_, x)) :: r => match noDst x F with | true => srcOk F r | false => false
theorem srcOk_ok {F : List (Nat × (Nat × Nat))} {j d x : Nat} : ∀ {l : List (Nat × (Nat × Nat))}, srcOk F l = true → lk l j = some (d, x) → noDst x F = true
  | [], _, h => by simp [lk] at h
  | (j0, (d0, x0)) :: r, hn, h => by
    simp only [srcOk] at hn
    split at hn
    · by_cases hj : j = j0
      · subst hj
        rw [lk_cons_same] at h; injection h with h; injection h with e1 e2; subst e2
        assumption
      · rw [lk_cons_other hj] at h; exact srcOk_ok hn h
    · cases hn
def memO (d : Nat) : List Operand → Bool
  | [] => false
  | .tmp t :: r => match eqn t d with | true => true | false => memO d r
  | _ :: r => memO d r
theorem memO_ok {d : Nat} : ∀ {l : List Operand}, memO d l = false → Operand.tmp d ∉ l
  | [], _ => by simp
  | .tmp t :: r, h => by
    simp only [memO] at h
    split at h
    · cases h
    · rename_i hb
      intro hm
      rcases List.mem_cons.1 hm with e | hm
      · injection e with e; subst e; simp at hb
      · exact memO_ok h hm
  | .const _ :: r, h => fun hm => by
    rcases List.mem_cons.1 hm with e | hm
    · cases e
    · exact memO_ok (l := r) h hm
  | .func _ :: r, h => fun hm => by
    rcases List.mem_cons.1 hm with e | hm
    · cases e
    · exact memO_ok (l := r) h hm
  | .global _ :: r, h => fun hm => by
    rcases List.mem_cons.1 hm with e | hm
    · cases e
    · exact memO_ok (l := r) h hm
def apartB (o : Oper) (s : SO) (d x : Nat) : Bool :=
  match memO d o.op.operands.toList, (match s.g with | some (t, _) => eqn t d | none => false), (match s.d with | some e => (match eqn e d with | true => true | false => eqn e x) | none => false) with
  | false, false, false => true
  | _, _, _ => false
theorem apartB_ok {o : Oper} {s : SO} {d x : Nat} (h : apartB o s d x = true) : Apart o s d x := by
  unfold apartB at h
  split at h
  · rename_i h1 h2 h3
    refine ⟨fun hm => memO_ok h1 (Array.mem_toList_iff.2 hm), fun b hb => ?_, fun hd => ?_, fun hd => ?_⟩
    · rw [hb] at h2; simp at h2
    · rw [hd] at h3; simp at h3
    · rw [hd] at h3
      simp only at h3
      split at h3
      · cases h3
      · simp at h3
  · cases h
def rowB (F : List (Nat × (Nat × Nat))) (b : Nat) (o : Oper) (s : SO) : Nat → Bool
  | 0 => true
  | j + 1 => match b.testBit j with
    | true => rowB F b o s j
    | false => match lk F j with
      | some (d, x) => (match apartB o s d x with | true => rowB F b o s j | false => false)
      | none => false
theorem rowB_ok {F : List (Nat × (Nat × Nat))} {b : Nat} {o : Oper} {s : SO} : ∀ {n : Nat}, rowB F b o s n = true → ∀ j, j < n → b.testBit j = true ∨ ∃ d x, lk F j = some (d, x) ∧ Apart o s d x
  | 0, _, j, hj => absurd hj (Nat.not_lt_zero _)
  | n + 1, h, j, hj => by
    simp only [rowB] at h
    rcases Nat.lt_or_ge j n with h1 | h1
    · split at h
      · exact rowB_ok h j h1
      · split at h
        · split at h
          · exact rowB_ok h j h1
          · cases h
        · cases h
    · have : j = n := by omega
      subst this
      split at h
      · exact .inl ‹_›
      · split at h
        · rename_i d x hd
          split at h
          · exact .inr ⟨d, x, hd, apartB_ok ‹_›⟩
          · cases h
        · cases h
def tailF (F : List (Nat × (Nat × Nat))) (as : List Nat) : Nat → List Oper → List SO → Bool
  | _, [], _ => true
  | i, o :: r, s :: t => match rowB F (as.getD i 0) o s i with | true => tailF F as (i + 1) r t | false => false
  | _, _ :: _, [] => false
theorem tailF_ok {F : List (Nat × (Nat × Nat))} {as : List Nat} : ∀ {l : List Oper} {t : List SO} {i0 : Nat}, tailF F as i0 l t = true → ∀ k o s, l[k]? = some o → t[k]? = some s → rowB F (as.getD (i0 + k) 0) o s (i0 + k) = true
  | [], _, _, _, k, o, s, h, _ => by simp at h
  | o0 :: r, [], _, h, _, _, _, _, _ => by simp [tailF] at h
  | o0 :: r, s0 :: t, i0, h, k, o, s, ho, hs => by
    simp only [tailF] at h
    split at h
    · cases k with
      | zero => simp at ho hs; subst ho; subst hs; assumption
      | succ k =>
        have := tailF_ok h k o s (by simpa using ho) (by simpa using hs)
        rw [show i0 + 1 + k = i0 + (k + 1) by omega] at this
        exact this
    · cases h

def anyC (ops : List Oper) (sl : List SO) (m : Nat) (F : List (Nat × (Nat × Nat))) (as : List Nat) : Bool :=
  match len m ops.length, backB 0 ops, distB (tk m sl), readB (tk m sl) 0 (tk m ops) (tk m sl), srcOk F F, tailF F as m (dr m ops) (dr m sl) with
  | true, true, true, true, true, true => true
  | _, _, _, _, _, _ => false
def anyB (ops : List Oper) (sl : List SO) (m : Nat) : Bool := anyC ops sl m (flsOf (ancs ops []) m ops.length 0 (tk m sl)) (ancs ops [])

theorem anyB_ok {ops : Array Oper} {sl : List SO} {m : Nat} (h : anyB ops.toList sl m = true) : AnyOk ops sl m (Anc ops) (lk (flsOf (ancs ops.toList []) m ops.toList.length 0 (tk m sl))) := by
  unfold anyB at h
  generalize hF : flsOf (ancs ops.toList []) m ops.toList.length 0 (tk m sl) = F at h
  unfold anyC at h
  split at h
  · rename_i h1 h2 h3 h4 h5 h6
    have h1 := len_true h1
    rw [Array.length_toList] at h1
    rw [tk_eq] at h3 h4
    rw [tk_eq] at h4
    rw [dr_eq, dr_eq] at h6
    refine ⟨fun j d x hj => ?_, h1, fun i o ho e he hb => ?_, fun i j si sj t hi hj hsi hsj => ?_, fun i j o si sj t hi hj ho hsi hsj hd ht => ?_, fun i j o ho ha => ?_, fun i j hmi hin hji => ?_⟩
    · have hj' := hj
      rw [← hF] at hj'
      obtain ⟨k, hk, hs⟩ := flsOf_ok hj'
      rw [Nat.zero_add] at hk; subst hk
      rw [tk_eq, List.getElem?_take] at hs
      split at hs
      · refine ⟨‹_›, hs, fun j' d' x' hj2 => ?_⟩
        exact noDst_ok (srcOk_ok h5 hj) hj2
      · cases hs
    · have := backB_ok h2 i o (by simpa using ho) e he hb
      omega
    · exact distB_ok h3 i j si sj t (by rw [List.getElem?_take, if_pos hi]; exact hsi) (by rw [List.getElem?_take, if_pos hj]; exact hsj)
    · have := readB_ok h4 i o si (by rw [List.getElem?_take, if_pos hi]; simpa using ho) (by rw [List.getElem?_take, if_pos hi]; exact hsi) t ht
      rw [Nat.zero_add] at this
      obtain ⟨a1, e, a2, a3, a4⟩ := readT_ok this j sj (by rw [List.getElem?_take, if_pos hj]; exact hsj) hd
      rw [Nat.zero_add] at a1 a4
      exact ⟨a1, e, Array.mem_toList_iff.1 a2, a3, a4⟩
    · cases ha with
      | edge ho' he hb => rw [ho] at ho'; injection ho' with ho'; subst ho'; exact ⟨_, he, hb, .inl rfl⟩
      | trans ho' he hb ha => rw [ho] at ho'; injection ho' with ho'; subst ho'; exact ⟨_, he, hb, .inr ha⟩
    · have hos : ∃ s, sl[i]? = some s := by
        cases hs : sl[i]? with
        | some s => exact ⟨s, rfl⟩
        | none =>
          exfalso
          have hl : ∀ {l : List Oper} {t : List SO} {i0 : Nat}, tailF F (ancs ops.toList []) i0 l t = true → l.length ≤ t.length := by
            intro l
            induction l with
            | nil => intro t i0 _; simp
            | cons o r ih =>
              intro t i0 h
              cases t with
              | nil => simp [tailF] at h
              | cons s t =>
                simp only [tailF] at h
                split at h
                · simpa using ih h
                · cases h
          have := hl h6
          rw [List.getElem?_eq_none_iff] at hs
          simp at this
          omega
      obtain ⟨s, hs⟩ := hos
      have hb := rowB_ok (tailF_ok h6 (i - m) ops[i] s (by rw [List.getElem?_drop, show m + (i - m) = i by omega]; simp [hin]) (by rw [List.getElem?_drop, show m + (i - m) = i by omega]; exact hs)) j (by omega)
      rw [show m + (i - m) = i by omega] at hb
      rcases hb with hb | ⟨d, x, hd, hap⟩
      · exact .inl (ancs_ok ops.toList [] (fun j => by simp) (fun i j h => by simp at h) i j hb)
      · refine .inr ⟨d, x, hd, fun o' s' ho' hs' => ?_⟩
        rw [Array.getElem?_eq_getElem hin] at ho'; injection ho' with ho'; subst ho'
        rw [hs] at hs'; injection hs' with hs'; subst hs'
        exact hap
  · cases h

/-! ### Bodies -/
def isTail (H : Hint) : Op → Bool
  | .assign _ => true
  | .store _ _ _ => true
  | .call { callee := .builtin .append, args := _, argTypes := _ } => true
  | .call { callee := .value (.func n), args := _, argTypes := _ } => memB n H.lent
  | .call { callee := .invoke _ _, args := _, argTypes := _ } => true
  | _ => false
def firstTail (H : Hint) : Nat → List Oper → Nat
  | i, [] => i
  | i, o :: r => match isTail H o.op with | true => i | false => firstTail H (i + 1) r
def wrap (nt : Nat) : List Gh → S → Option S
  | [], s => some s
  | .frz x :: r, s => (wrap nt r s).map (.frz x)
  | .frzb x :: r, s => (wrap nt r s).map (.frzb x)
  | .nil t d e :: r, s => match ltn t nt, ltn d nt with | true, true => (wrap nt r s).map (.nil t d e) | _, _ => none
  | .nilb x j d e :: r, s => match ltn d nt with | true => (wrap nt r s).map (.nilb x j d e) | false => none
theorem wrap_ok {P : Program} {nt : Nat} {c : Code} : ∀ {l : List Gh} {s s' : S}, wrap nt l s = some s' → CmpS P nt c s → CmpS P nt c s'
  | [], s, s', h, hc => by simp only [wrap, Option.some.injEq] at h; subst h; exact hc
  | .frz x :: r, s, s', h, hc => by obtain ⟨y, h1, rfl⟩ := Option.map_eq_some_iff.1 h; exact .frz (wrap_ok h1 hc)
  | .frzb x :: r, s, s', h, hc => by obtain ⟨y, h1, rfl⟩ := Option.map_eq_some_iff.1 h; exact .frzb (wrap_ok h1 hc)
  | .nil t d e :: r, s, s', h, hc => by
    simp only [wrap] at h
    split at h
    · rename_i hlt hltd
      obtain ⟨y, h1, rfl⟩ := Option.map_eq_some_iff.1 h
      exact .nil (ltn_true hlt) (ltn_true hltd) (wrap_ok h1 hc)
    · cases h
  | .nilb x j d e :: r, s, s', h, hc => by
    simp only [wrap] at h
    split at h
    · rename_i hltd
      obtain ⟨y, h1, rfl⟩ := Option.map_eq_some_iff.1 h
      exact .nilb (ltn_true hltd) (wrap_ok h1 hc)
    · cases h

/-- What stands behind a region. -/
def wrap2 (nt : Nat) (l : Option (List Gh)) (s : S) : Option S :=
  match l with
  | none => some s
  | some l => (wrap nt l .skip).map (.seq s)

def compS (P : Program) (nt : Nat) (H : Hint) : Code → Option S
  | .region id ops draw => match compOs P nt ops H ops.toList with
    | some l => (match draw with
      | false => (match wrap nt (match lk H.pre id with | some g => g | none => []) (.ops l) with | some s => wrap2 nt (lk H.post id) s | none => none)
      | true => (match anyB ops.toList l (firstTail H 0 ops.toList) with
        | true => (match wrap nt (match lk H.pre id with | some g => g | none => []) (.any (firstTail H 0 ops.toList) l) with | some s => wrap2 nt (lk H.post id) s | none => none)
        | false => none))
    | none => none
  | .seq a b => match compS P nt H a, compS P nt H b with | some a, some b => some (.seq a b) | _, _ => none
  | .cond c t e => match cO c, compS P nt H t, compS P nt H e with | some c, some t, some e => some (.cond c t e) | _, _, _ => none
  | .block id c => (compS P nt H c).map (.block id)
  | .loop c => (compS P nt H c).map .loop
  | .exit id => some (.exit id)
  | .ret => some .ret
  | .skip => some .skip
  | _ => none

theorem wrap_gh {nt : Nat} : ∀ {l : List Gh} {s s' : S}, wrap nt l s = some s' → Ghost nt s → Ghost nt s'
  | [], s, s', h, hc => by simp only [wrap, Option.some.injEq] at h; subst h; exact hc
  | .frz x :: r, s, s', h, hc => by obtain ⟨y, h1, rfl⟩ := Option.map_eq_some_iff.1 h; exact .frz (wrap_gh h1 hc)
  | .frzb x :: r, s, s', h, hc => by obtain ⟨y, h1, rfl⟩ := Option.map_eq_some_iff.1 h; exact .frzb (wrap_gh h1 hc)
  | .nil t d e :: r, s, s', h, hc => by
    simp only [wrap] at h
    split at h
    · rename_i hlt hltd
      obtain ⟨y, h1, rfl⟩ := Option.map_eq_some_iff.1 h
      exact .nil (ltn_true hlt) (ltn_true hltd) (wrap_gh h1 hc)
    · cases h
  | .nilb x j d e :: r, s, s', h, hc => by
    simp only [wrap] at h
    split at h
    · rename_i hltd
      obtain ⟨y, h1, rfl⟩ := Option.map_eq_some_iff.1 h
      exact .nilb (ltn_true hltd) (wrap_gh h1 hc)
    · cases h
theorem wrap2_ok {P : Program} {nt : Nat} {c : Code} {l : Option (List Gh)} {s s' : S} (h : wrap2 nt l s = some s') (hc : CmpS P nt c s) : CmpS P nt c s' := by
  unfold wrap2 at h
  split at h
  · injection h with h; subst h; exact hc
  · obtain ⟨y, h1, rfl⟩ := Option.map_eq_some_iff.1 h; exact .post hc (wrap_gh h1 .skip)

theorem compS_ok {P : Program} {nt : Nat} {H : Hint} : ∀ {c : Code} {s : S}, compS P nt H c = some s → CmpS P nt c s
  | .region id ops draw, s, h => by
    simp only [compS] at h
    split at h
    · rename_i l hl
      cases draw with
      | false =>
        simp only at h
        split at h
        · exact wrap2_ok h (wrap_ok ‹_› (.ops (compOs_ok hl)))
        · cases h
      | true =>
        simp only at h
        split at h
        · split at h
          · exact wrap2_ok h (wrap_ok ‹_› (.any (compOs_ok hl) (anyB_ok ‹_›)))
          · cases h
        · cases h
    · cases h
  | .seq a b, s, h => by
    simp only [compS] at h
    split at h
    · injection h with h; subst h; exact .seq (compS_ok ‹_›) (compS_ok ‹_›)
    · cases h
  | .cond c t e, s, h => by
    simp only [compS] at h
    split at h
    · injection h with h; subst h; exact .cond (cO_co ‹_›) (compS_ok ‹_›) (compS_ok ‹_›)
    · cases h
  | .block id c, s, h => by
    obtain ⟨y, h1, rfl⟩ := Option.map_eq_some_iff.1 h; exact .block (compS_ok h1)
  | .loop c, s, h => by
    obtain ⟨y, h1, rfl⟩ := Option.map_eq_some_iff.1 h; exact .loop (compS_ok h1)
  | .exit id, s, h => by simp only [compS, Option.some.injEq] at h; subst h; exact .exit
  | .ret, s, h => by simp only [compS, Option.some.injEq] at h; subst h; exact .ret
  | .skip, s, h => by simp only [compS, Option.some.injEq] at h; subst h; exact .skip
  | .rangeFunc _ _ _ _, s, h => by simp [compS] at h
  | .scope _, s, h => by simp [compS] at h
  | .label _, s, h => by simp [compS] at h
  | .goto _, s, h => by simp [compS] at h
  | .refuse _, s, h => by simp [compS] at h

def compR (P : Program) : List ResultVar → Option (List RV)
  | [] => some []
  | .tmp n :: r => (compR P r).map (.t n :: ·)
  | .cell n T :: r => match aggT P T, szT P T, compR P r with | some g, some sz, some l => some (.c n g sz :: l) | _, _, _ => none
theorem compR_ok {P : Program} : ∀ {l : List ResultVar} {m : List RV}, compR P l = some m → CmpRs P l m
  | [], m, h => by simp only [compR, Option.some.injEq] at h; subst h; exact .nil
  | .tmp n :: r, m, h => by obtain ⟨y, h1, rfl⟩ := Option.map_eq_some_iff.1 h; exact .cons .t (compR_ok h1)
  | .cell n T :: r, m, h => by
    simp only [compR] at h
    split at h
    · injection h with h; subst h; exact .cons (.c ‹_› ‹_›) (compR_ok ‹_›)
    · cases h

/-- All that is asked of a function's code, as one equation that the kernel reckons. -/
def readFn (P : Program) (f : FuncId) (H : Hint) : Option (S × List RV × Nat) :=
  match P.funcs[f]? with
  | none => none
  | some fn => match fn.body, enters P f with
    | some c, true => (match compS P fn.ntmps H c, compR P fn.results.toList with
      | some s, some l => some (s, l, fn.ntmps)
      | _, _ => none)
    | _, _ => none

theorem meetsM_none {K : Type} {P : Program} {D : Dom K} {f : FuncId} {Sf : Sp K} (h : ∀ l hp, Sf.g l hp = none) : MeetsM P D f Sf := fun args hp pre r hp' _ hs => by rw [h] at hs; cases hs

theorem meets_of {K : Type} {P : Program} {D : Dx K} {f : FuncId} {H : Hint} {s : S} {l : List RV} {n : Nat} {Sf : Sp K} (N : Hide) (R : List (Nat × Sp K)) (hm : P.follows .mixedOrders = true) (hD : DomOk P D) (hR : ∀ f s, lk R f = some s → Meets P D.toDom f s)
    (hf : readFn P f H = some (s, l, n)) (hg : ∀ l hp, Sf.g l hp = none) (har : len Sf.ar n = true) (hnt : len n 1000000 = true) (hnk : ∀ k, some k ∈ Sf.nk → D.ptr k = false ∧ D.len k = 0 ∧ D.wf k)
    (h : ∀ args pre r, args.length = Sf.ar → Sf.f args = some (pre, r) → pre → run N D R s (init args) fun e st => match e with | .exit _ => False | .nm => fin N D st l r | .ret => fin N D st l r) : Meets P D.toDom f Sf := by
  unfold readFn at hf
  split at hf
  · cases hf
  · rename_i fn hfn
    split at hf
    · rename_i c hb hen
      split at hf
      · rename_i s' l' hs hl
        injection hf with hf
        injection hf with e1 e2
        injection e2 with e2 e3
        subst e1; subst e2; subst e3
        exact fn_meets N R hm hD hR hfn hb hen (compS_ok hs) (compR_ok hl) (len_true har) (len_true hnt) hnk (meetsM_none hg) h
      · cases hf
    · cases hf

theorem meetsM_of {K : Type} {P : Program} {D : Dx K} {f : FuncId} {H : Hint} {s : S} {l : List RV} {n : Nat} {Sf : Sp K} (N : Hide) (R : List (Nat × Sp K)) (ren : List (Nat × Nat)) (hm : P.follows .mixedOrders = true) (hD : DomOk P D) (hR : ∀ f s, lk R f = some s → Meets P D.toDom f s)
    (hf : readFn P f H = some (s, l, n)) (hg : ∀ l, Sf.f l = none) (har : len Sf.ar n = true) (hnt : len n 1000000 = true) (hnk : ∀ k, some k ∈ Sf.nk → D.ptr k = false ∧ D.len k = 0 ∧ D.wf k)
    (h : ∀ args hp pre r hp', args.length = Sf.ar → Sf.g args hp = some (pre, r, hp') → pre → renOk Sf.still hp ren = true ∧ run N D R s { sl := initSl 0 args, hp := hp } fun e st => match e with | .exit _ => False | .nm => finM N D ren st l r hp' | .ret => finM N D ren st l r hp') : Meets P D.toDom f Sf := by
  unfold readFn at hf
  split at hf
  · cases hf
  · rename_i fn hfn
    split at hf
    · rename_i c hb hen
      split at hf
      · rename_i s' l' hs hl
        injection hf with hf
        injection hf with e1 e2
        injection e2 with e2 e3
        subst e1; subst e2; subst e3
        exact ⟨hen, hnk, (fun args pre r _ hs' => by rw [hg] at hs'; cases hs'), fn_meetsM N R ren hm hD hR hfn hb (compS_ok hs) (compR_ok hl) (len_true har) (len_true hnt) h⟩
      · cases hf
    · cases hf
end Go.Sy
