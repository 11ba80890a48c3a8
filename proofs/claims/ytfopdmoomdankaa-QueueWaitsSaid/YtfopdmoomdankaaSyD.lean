/- The operations, as a small language; how they are read off the loaded code; what each does. -/
import Derived.Test.YtfopdmoomdankaaSyC
import Derived.WalkSpells
import Derived.WalkLawsBesides
set_option linter.unusedVariables false
set_option linter.unusedSimpArgs false
namespace Go.Sy
open Go

inductive O | t (n : Nat) | k (x : Value) | f (n : Nat)

inductive I
  | mv (x : O) | pick (c x y : O) | box (T : TypeId) (x : O) | alloc (T : TypeId)
  | build (T : TypeId) (parts : List (Nat × Nat × O))
  | bsl (own : Bool) (e : TypeId) (sz : Nat) (parts : List O)
  | ld (g : Bool) (sz : Nat) (a : O) | sto (sz : Nat) (a x : O) | nilc (x : O)
  | bin (op : BinOp) (x y : O) | eqb (neg : Bool) (x y : O) | eqs (neg : Bool) (x y : O) | eqn (neg : Bool) (x : O)
  | nt (x : O) | cv (k : IntKind) (x : O) | b2s (x : O) | mkf (f : FuncId) (x : Option O)
  | mks (e : TypeId) (sz bytes : Nat) (l c : O) | slc (sz : Nat) (x : O) (lo hi : Option O)
  | fad (off : Nat) (x : O) | iad (sz an : Nat) (x i : O) | ext (x : O) (i : Nat)
  | callm (f : O) (xs : List O) | inv (T : TypeId) (n : FuncId) (ld : Option (Bool × Nat)) (x : O) (xs : List O) | mki (T : TypeId) (x : O) | tas (T : TypeId) (x : O)
  | call (f : O) (xs : List O) | len (x : O) | app (e : TypeId) (sz bytes : Nat) (x y : O) | mx (x y : O) | mn (x y : O)

inductive CO : Operand → O → Prop
  | t (n : Nat) : CO (.tmp n) (.t n)
  | k (x : Value) : x.oneCell' = true → CO (.const x) (.k x)
  | f (n : Nat) : CO (.func n) (.f n)
inductive COs : List Operand → List O → Prop
  | nil : COs [] []
  | cons {x y xs ys} : CO x y → COs xs ys → COs (x :: xs) (y :: ys)
inductive COo : Option Operand → Option O → Prop
  | none : COo none none
  | some {x y} : CO x y → COo (some x) (some y)

def cO : Operand → Option O
  | .tmp n => some (.t n)
  | .const x => match x.oneCell' with | true => some (.k x) | false => none
  | .func n => some (.f n)
  | .global _ => none
theorem cO_co {x : Operand} {y : O} (h : cO x = some y) : CO x y := by
  cases x with
  | tmp n => simp only [cO, Option.some.injEq] at h; subst h; exact .t n
  | const x =>
    simp only [cO] at h
    split at h
    · injection h with h; subst h; exact .k x ‹_›
    · cases h
  | func n => simp only [cO, Option.some.injEq] at h; subst h; exact .f n
  | global n => cases h
def cOs : List Operand → Option (List O)
  | [] => some []
  | x :: xs => match cO x, cOs xs with | some y, some ys => some (y :: ys) | _, _ => none
theorem cOs_co : ∀ {xs : List Operand} {ys : List O}, cOs xs = some ys → COs xs ys
  | [], ys, h => by simp only [cOs, Option.some.injEq] at h; subst h; exact .nil
  | x :: xs, ys, h => by
    simp only [cOs] at h
    split at h
    · injection h with h; subst h; exact .cons (cO_co ‹_›) (cOs_co ‹_›)
    · cases h
def cOo : Option Operand → Option (Option O)
  | none => some none
  | some x => match cO x with | some y => some (some y) | none => none
theorem cOo_co {x : Option Operand} {y : Option O} (h : cOo x = some y) : COo x y := by
  cases x with
  | none => simp only [cOo, Option.some.injEq] at h; subst h; exact .none
  | some x =>
    simp only [cOo] at h
    split at h
    · injection h with h; subst h; exact .some (cO_co ‹_›)
    · cases h

def szT (P : Program) (T : TypeId) : Option Nat := (P.info? T).map (·.size)
def byT (P : Program) (T : TypeId) : Option Nat := (P.info? T).map (·.bytes)
def zT (P : Program) (T : TypeId) : Bool := match P.info? T with | some i => i.zero.isSome | none => false
def zsT (P : Program) (T : TypeId) : Bool := match P.info? T with | some i => (match i.zero with | some z => eqn z.cells.size i.size | none => false) | none => false
def aggT (P : Program) (T : TypeId) : Option Bool := (P.underlying T).map fun | .struct _ => true | .array _ _ => true | _ => false
def slE (P : Program) (T : TypeId) : Option TypeId := match P.underlying T with | some (.slice e) => some e | _ => none
def fldT (P : Program) (T : TypeId) (i : Nat) : Option (Nat × Nat) :=
  match P.underlying T with
  | some (.struct fs) => match fs[i]? with
    | some f => match szT P f.type with
      | some n => some (f.offset, n)
      | none => none
    | none => none
  | _ => none
def ixT (P : Program) (T : TypeId) : Option (Nat × Nat) :=
  match P.underlying T with
  | some (.slice e) => match szT P e with | some n => some (n, 0) | none => none
  | some (.array n e) => match len 2 n, szT P e with | true, some s => some (s, n) | _, _ => none
  | _ => none
def intT (P : Program) (T : TypeId) : Option IntKind := match P.underlying T with | some (.int k) => some k | _ => none
def isInt (P : Program) (T : TypeId) : Bool := (intT P T).isSome
def boolT (P : Program) (T : TypeId) : Bool := match P.underlying T with | some .bool => true | _ => false
def strT (P : Program) (T : TypeId) : Bool := match P.underlying T with | some .string => true | _ => false
def ptrT (P : Program) (T : TypeId) : Bool := match P.underlying T with | some (.pointer _) => true | _ => false
def notIfc (P : Program) (T : TypeId) : Bool := match P.underlying T with | some (.interface _) => false | some _ => true | none => false
/-- Which function a method of a pointer type is, and what is loaded from the receiver. -/
def mthT (P : Program) (T : TypeId) (name : String) : Option (FuncId × Option (Bool × Nat)) :=
  match P.info? T, P.underlying T with
  | some i, some (.pointer E) => match i.methods.find? (·.name == name) with
    | some m => (match m.path, m.func with
      | ⟨[]⟩, some (f, pr) => (match pr, aggT P E, szT P E with
        | true, _, _ => some (f, none)
        | false, some g, some sz => some (f, some (g, sz))
        | _, _, _ => none)
      | _, _ => none)
    | none => none
  | _, _ => none
def elemAt : Nat → List (Nat × Operand) → Option (List Operand)
  | _, [] => some []
  | i, (j, x) :: r => match eqn i j, elemAt (i + 1) r with | true, some l => some (x :: l) | _, _ => none
def plT (P : Program) (T : TypeId) : Option (List (Nat × Nat)) :=
  match P.underlying T with
  | some (.struct fs) => fs.toList.mapM fun f => (P.info? f.type).map fun i => (f.offset, i.size)
  | _ => none
inductive Parts (pl : List (Nat × Nat)) : List (Nat × Operand) → List (Nat × Nat × O) → Prop
  | nil : Parts pl [] []
  | cons {i x off n y r s} : pl[i]? = some (off, n) → CO x y → Parts pl r s → Parts pl ((i, x) :: r) ((off, n, y) :: s)
def cParts (pl : List (Nat × Nat)) : List (Nat × Operand) → Option (List (Nat × Nat × O))
  | [] => some []
  | (i, x) :: r => match pl[i]?, cO x, cParts pl r with | some (off, n), some y, some s => some ((off, n, y) :: s) | _, _, _ => none
theorem cParts_co {pl : List (Nat × Nat)} : ∀ {xs : List (Nat × Operand)} {ys}, cParts pl xs = some ys → Parts pl xs ys
  | [], ys, h => by simp only [cParts, Option.some.injEq] at h; subst h; exact .nil
  | (i, x) :: xs, ys, h => by
    simp only [cParts] at h
    split at h
    · injection h with h; subst h; exact .cons ‹_› (cO_co ‹_›) (cParts_co ‹_›)
    · cases h

/-- An operation of the loaded code is one of ours. -/
inductive Cmp (P : Program) : Op → I → Prop
  | mv {x y} : CO x y → Cmp P (.move x) (.mv y)
  | asg {x y} : CO x y → Cmp P (.assign x) (.mv y)
  | pick {c x y c' x' y'} : CO c c' → CO x x' → CO y y' → Cmp P (.pick c x y) (.pick c' x' y')
  | box {T x y} : CO x y → Cmp P (.box T x) (.box T y)
  | alloc {T} : Cmp P (.alloc T) (.alloc T)
  | build {T ps qs pl} : plT P T = some pl → Parts pl ps.toList qs → Cmp P (.build T ps) (.build T qs)
  | bsl {T e n ps xs ys own sz} : slE P T = some e → szT P e = some sz → 0 < sz → zT P e = true → n = ps.size → n * sz ≤ 2 ^ 24 → elemAt 0 ps.toList = some xs → COs xs ys → Cmp P (.buildSlice T n ps) (.bsl own e sz ys)
  | ld {T a b g sz} : aggT P T = some g → szT P T = some sz → CO a b → Cmp P (.load T a) (.ld g sz b)
  | sto {T a b x y sz} : szT P T = some sz → CO a b → CO x y → Cmp P (.store T a x) (.sto sz b y)
  | nilc {x y} : CO x y → Cmp P (.nilCheck x) (.nilc y)
  | bin {op T x y T' x' y'} : isInt P T = true → CO x x' → CO y y' → Cmp P (.binOp op T x y T') (.bin op x' y')
  | eqb {T x y T' x' y'} : boolT P T = true → CO x x' → CO y y' → Cmp P (.binOp .eql T x y T') (.eqb false x' y')
  | neb {T x y T' x' y'} : boolT P T = true → CO x x' → CO y y' → Cmp P (.binOp .neq T x y T') (.eqb true x' y')
  | eqs {T x y T' x' y'} : strT P T = true → CO x x' → CO y y' → Cmp P (.binOp .eql T x y T') (.eqs false x' y')
  | nes {T x y T' x' y'} : strT P T = true → CO x x' → CO y y' → Cmp P (.binOp .neq T x y T') (.eqs true x' y')
  | eqn {T x T' x'} : ptrT P T = true → CO x x' → Cmp P (.binOp .eql T x (.const (.pointer none)) T') (.eqn false x')
  | nen {T x T' x'} : ptrT P T = true → CO x x' → Cmp P (.binOp .neq T x (.const (.pointer none)) T') (.eqn true x')
  | nt {T x y} : CO x y → Cmp P (.unOp .not T x) (.nt y)
  | cv {s d x y k} : (P.underlying s).isSome = true → intT P d = some k → CO x y → Cmp P (.convert s d x) (.cv k y)
  | b2s {s d e x y} : slE P s = some e → intT P e = some .u8 → strT P d = true → CO x y → Cmp P (.convert s d x) (.b2s y)
  | mkf0 {f} : Cmp P (.makeFunc (.func f) #[] #[]) (.mkf f none)
  | mkf1 {f x y} : CO x y → Cmp P (.makeFunc (.func f) #[x] #[]) (.mkf f (some y))
  | mks {T e l c l' c' sz by_} : slE P T = some e → szT P e = some sz → byT P e = some by_ → CO l l' → CO c c' → Cmp P (.makeSlice T l c) (.mks e sz by_ l' c')
  | slc {T e x lo hi x' lo' hi' sz} : slE P T = some e → szT P e = some sz → CO x x' → COo lo lo' → COo hi hi' → Cmp P (.slice T x lo hi none) (.slc sz x' lo' hi')
  | fad {T x x' i off n} : fldT P T i = some (off, n + 1) → CO x x' → Cmp P (.fieldAddr T x i) (.fad off x')
  | iad {T x i x' i' sz an} : ixT P T = some (sz, an) → CO x x' → CO i i' → Cmp P (.indexAddr T x i) (.iad sz an x' i')
  | ext {x y i} : CO x y → Cmp P (.extract x i) (.ext y i)
  | call {f xs ts f' ys} : CO f f' → COs xs.toList ys → Cmp P (.call { callee := .value f, args := xs, argTypes := ts }) (.call f' ys)
  | callm {f xs ts f' ys} : CO f f' → COs xs.toList ys → Cmp P (.call { callee := .value f, args := xs, argTypes := ts }) (.callm f' ys)
  | inv {name x xs ts T n ld x' ys} : mthT P T name = some (n, ld) → CO x x' → COs xs.toList ys → Cmp P (.call { callee := .invoke x name, args := xs, argTypes := ts }) (.inv T n ld x' ys)
  | mki {T x y} : notIfc P T = true → CO x y → Cmp P (.makeInterface T x) (.mki T y)
  | tas {T U x y} : notIfc P T = true → CO x y → Cmp P (.typeAssert x U T true) (.tas T y)
  | len {x y T e} : slE P T = some e → CO x y → Cmp P (.call { callee := .builtin .len, args := #[x], argTypes := #[T] }) (.len y)
  | app {x y x' y' T e sz by_} : slE P T = some e → szT P e = some sz → 0 < sz → byT P e = some by_ → zsT P e = true → CO x x' → CO y y' → Cmp P (.call { callee := .builtin .append, args := #[x, y], argTypes := #[T, T] }) (.app e sz by_ x' y')
  | mx {x y x' y' ts} : CO x x' → CO y y' → Cmp P (.call { callee := .builtin .max, args := #[x, y], argTypes := ts }) (.mx x' y')
  | mn {x y x' y' ts} : CO x x' → CO y y' → Cmp P (.call { callee := .builtin .min, args := #[x, y], argTypes := ts }) (.mn x' y')

/-! ### What runs -/
section
variable {P : Program} {w : World}

theorem add_addr (b o j : Nat) : (⟨b, o, none⟩ : Addr).add j = ⟨b, o + j, none⟩ := by unfold Addr.add; split <;> simp_all

theorem run_isAgg {T : TypeId} {g : Bool} (h : aggT P T = some g) : (isAgg T).run P w = .ok g w := by
  unfold aggT at h
  obtain ⟨d, hd, rfl⟩ := Option.map_eq_some_iff.1 h
  simp only [isAgg, Sem.run_bind, run_underlying hd, Result.andThen_ok]
  cases d <;> rfl
theorem run_sizeOf' {T : TypeId} {n : Nat} (h : szT P T = some n) : (sizeOf T).run P w = .ok n w := by
  unfold szT at h
  obtain ⟨i, hi, rfl⟩ := Option.map_eq_some_iff.1 h
  simp [sizeOf, typeInfo, hi]

theorem run_ld {T : TypeId} {g : Bool} {sz b o : Nat} (hg : aggT P T = some g) (hs : szT P T = some sz) {us : List Value} (hl : us.length = sz)
    (hc : ∀ j u, us[j]? = some u → w.cell? ⟨b, o + j, none⟩ = some u) :
    (Instr.loadAt T (.pointer (some ⟨b, o, none⟩))).run P w = (match g with | true => .ok (.agg us.toArray) w | false => match us with | u :: _ => .ok u w | [] => (load ⟨b, o, none⟩).run P w) := by
  simp only [Instr.loadAt, Instr.sureAddr, loadVar, Sem.run_bind, Sem.run_pure, Result.andThen_ok, run_isAgg hg]
  cases g
  · simp only [Bool.false_eq_true, if_false]
    cases us with
    | nil => rfl
    | cons u us =>
      have := hc 0 u rfl
      simp only [Nat.add_zero] at this
      simp [this]
  · simp only [if_true, Sem.run_bind, run_sizeOf' hs, Result.andThen_ok]
    have := run_loadCells_list (P := P) w ⟨b, o, none⟩ us (fun j v hv => by rw [add_addr]; exact hc j v hv)
    rw [hl] at this
    simp [this]

theorem run_sto {T : TypeId} {sz b o : Nat} (hs : szT P T = some sz) {x : Value} (hl : x.cells.size = sz) {cur : Array Value} {t : TypeId}
    (hg : w.heap[b]? = some (.cells cur t (0, 0))) (hfit : o + sz ≤ cur.size) (h1 : ∀ v ∈ x.cells.toList, v.oneCell' = true) :
    (Instr.storeAt T (.pointer (some ⟨b, o, none⟩)) x).run P w = .ok () (w.setRow b (cur.toList.take o ++ x.cells.toList ++ cur.toList.drop (o + sz)).toArray) := by
  simp only [Instr.storeAt, Instr.sureAddr, storeVar, Sem.run_bind, Sem.run_pure, Result.andThen_ok, run_sizeOf' hs]
  have := run_storeCells_at P b o t x.cells.toList 0 cur w hg (by simp only [Array.length_toList]; omega) h1
  simp only [Nat.add_zero, Array.length_toList, hl] at this
  simp [hl, this]

theorem fldT_run {T : TypeId} {i off n : Nat} (h : fldT P T i = some (off, n + 1)) (a : Addr) : (Instr.fieldAt T (.pointer (some a)) i).run P w = .ok (.pointer (some (a.add off))) w := by
  unfold fldT at h
  split at h
  · rename_i fs hT
    split at h
    · rename_i f hf
      split at h
      · rename_i n' hn
        injection h with h; injection h with h1 h2
        subst h1
        simp [Instr.fieldAt, run_underlying hT, hf, Instr.sureAddr, fieldPlace, run_sizeOf' hn, h2]
      · cases h
    · cases h
  · cases h

theorem run_iad_slice {T : TypeId} {sz an : Nat} (h : ixT P T = some (sz, an)) {b o : Nat} {l c : Nat} {k : IntKind} {i : Int} (h0 : 0 ≤ i) (h1 : i < (l : Int)) :
    ∀ (e : TypeId), P.underlying T = some (.slice e) → (Instr.indexAt T (.slice (some ⟨b, o, none⟩) l c) (.int k i)).run P w = .ok (.pointer (some ⟨b, o + i.toNat * sz, none⟩)) w := by
  intro e hT
  unfold ixT at h
  rw [hT] at h
  simp only at h
  split at h
  · rename_i n hn
    injection h with h; injection h with h1' h2'
    subst h1'
    simp [Instr.indexAt, asIntOf, run_underlying hT, h0, h1, run_sizeOf' hn, add_addr]
  · cases h
theorem run_iad_arr {T : TypeId} {sz an : Nat} (h : ixT P T = some (sz, an)) {b o : Nat} {k : IntKind} {i : Int} (h0 : 0 ≤ i) (h1 : i < (an : Int)) :
    (Instr.indexAt T (.pointer (some ⟨b, o, none⟩)) (.int k i)).run P w = .ok (.pointer (some ⟨b, o + i.toNat * sz, none⟩)) w := by
  unfold ixT at h
  split at h
  · split at h
    · injection h with h; injection h with h1' h2'; omega
    · cases h
  · rename_i n e hT
    split at h
    · rename_i s h2 hs
      injection h with h; injection h with h1' h2'
      subst h1'; subst h2'
      simp [Instr.indexAt, asIntOf, run_underlying hT, Instr.sureAddr, h0, h1, run_sizeOf' hs, add_addr]
    · cases h
  · cases h
end
end Go.Sy
