/- What an operation does to an abstract state. -/
import Derived.Test.YtfopdmoomdankaaSyD
set_option linter.unusedVariables false
set_option linter.unusedSimpArgs false
namespace Go.Sy
open Go

/-- A hood: what stands under it is not looked into while a state is reckoned. -/
structure Hide where
  th : {α : Type} → (Unit → α) → α
  eq : ∀ {α : Type} (f : Unit → α), th f = f ()

/-- What can be made of known data. -/
structure Dx (K : Type) extends Dom K where
  zobj : TypeId → Option (Ob K)
  zeros : TypeId → Nat → Option K
  zc : TypeId → List (C K)
  ofE : TypeId → List (List (C K)) → Option K
  cat : K → K → Option K
  set : K → Nat → Nat → List (C K) → Option K
  sub : K → Nat → Nat → Option K
  bts : K → Option (List Int)
  ofBox : TypeId → List (C K) → Option K
  nil : TypeId → Option K
  zeros_law : ∀ e n k, zeros e n = some k → ptr k = false ∧ len k = n ∧ sz k = (zc e).length ∧ flat k = (List.replicate n (zc e)).flatten
  ofE_law : ∀ e ls k, ofE e ls = some k → ptr k = false ∧ len k = ls.length ∧ flat k = ls.flatten
  cat_law : ∀ k k2 k', ptr k = false → cat k k2 = some k' → ptr k' = false ∧ ptr k2 = false ∧ sz k' = sz k ∧ sz k2 = sz k ∧ len k' = len k + len k2 ∧ flat k' = flat k ++ flat k2
  set_law : ∀ k n j xs k', set k n j xs = some k' → ptr k = false → n < len k → j + xs.length ≤ sz k → ptr k' = false ∧ sz k' = sz k ∧ len k' = len k ∧ flat k' = (flat k).take (n * sz k + j) ++ xs ++ (flat k).drop (n * sz k + j + xs.length)
  sub_law : ∀ k lo hi k', sub k lo hi = some k' → ptr k = false → lo ≤ hi → hi ≤ len k → ptr k' = false ∧ sz k' = sz k ∧ len k' = hi - lo ∧ flat k' = ((flat k).drop (lo * sz k)).take ((hi - lo) * sz k)
  bts_law : ∀ k l, bts k = some l → ptr k = false ∧ sz k = 1 ∧ flat k = l.map fun n => .v (.int .u8 n)
  ofBox_law : ∀ t cs k, ofBox t cs = some k → ptr k = true ∧ flat k = cs
  nil_law : ∀ e k, nil e = some k → ptr k = false ∧ len k = 0

/-- A function's contract: what it needs and what it gives; where a parameter's nil slice reads as known data. -/
structure Sp (K : Type) where
  ar : Nat
  nk : List (Option K)
  f : List (B K) → Option (Prop × A K)
  g : List (B K) → List (Nat × Ob K) → Option (Prop × A K × List (Nat × Ob K)) := fun _ _ => none
  still : Bool := false

def ev {K : Type} (st : St K) : O → A K
  | .t n => match lk st.sl n with | some a => a | none => .top
  | .k x => .b (.c (.v x))
  | .f n => .b (.c (.fn n none))

def C.clo {K : Type} : C K → Bool
  | .p _ _ | .ifp _ _ _ | .row _ | .pr _ _ _ _ => false
  | _ => true
def allClo {K : Type} : List (C K) → Bool
  | [] => true
  | x :: r => match x.clo with | true => allClo r | false => false
def B.clo {K : Type} : B K → Bool
  | .c x => x.clo
  | .g cs => allClo cs
def lenB {α : Type} : List α → Nat → Bool
  | [], 0 => true
  | _ :: r, n + 1 => lenB r n
  | _, _ => false
theorem lenB_eq {α : Type} : ∀ {l : List α} {n : Nat}, lenB l n = true → l.length = n
  | [], 0, _ => rfl
  | _ :: r, n + 1, h => by simp only [lenB] at h; simp [lenB_eq h]
  | [], n + 1, h => by cases h
  | _ :: _, 0, h => by cases h

/-- Part of a list of cells. -/
def tk {α : Type} : Nat → List α → List α
  | 0, _ => []
  | n + 1, x :: r => x :: tk n r
  | _ + 1, [] => []
def dr {α : Type} : Nat → List α → List α
  | 0, l => l
  | n + 1, _ :: r => dr n r
  | _ + 1, [] => []
theorem tk_eq {α : Type} : ∀ (n : Nat) (l : List α), tk n l = l.take n
  | 0, _ => by simp [tk]
  | n + 1, [] => by simp [tk]
  | n + 1, x :: r => by simp [tk, tk_eq n r]
theorem dr_eq {α : Type} : ∀ (n : Nat) (l : List α), dr n l = l.drop n
  | 0, _ => by simp [dr]
  | n + 1, [] => by simp [dr]
  | n + 1, x :: r => by simp [dr, dr_eq n r]
def cat2 {α : Type} : List α → List α → List α
  | [], m => m
  | x :: r, m => x :: cat2 r m
theorem cat2_eq {α : Type} : ∀ (l m : List α), cat2 l m = l ++ m
  | [], m => rfl
  | x :: r, m => by simp [cat2, cat2_eq r m]

section
variable {K : Type} (N : Hide) (D : Dx K) (R : List (Nat × Sp K))

def cellsFrom (k : K) (n j : Nat) : Nat → List (C K)
  | 0 => []
  | m + 1 => D.cell k n j :: cellsFrom k n (j + 1) m

def asm (g : Bool) (ys : List (C K)) (q : A K → Prop) : Prop :=
  match g with
  | true => q (.b (.g ys))
  | false => match ys with
    | [y] => q (.b (.c y))
    | _ => False

def valsOf : List (C K) → Option (List Value)
  | [] => some []
  | .v x :: r => (match valsOf r with | some l => some (x :: l) | none => none)
  | _ :: _ => none
def ones : List Value → Bool
  | [] => true
  | x :: r => match x.oneCell' with | true => ones r | false => false

/-- The cells of parts that are laid one behind the other. -/
def rowsOf (st : St K) (sz : Nat) : List O → Option (List (List (C K)))
  | [] => some []
  | x :: r => match ev st x with
    | .b b => (match allClo b.cells, lenB b.cells sz with
      | true, true => (match rowsOf st sz r with | some l => some (b.cells :: l) | none => none)
      | _, _ => none)
    | _ => none
def fillA (st : St K) (cs : List (C K)) : List (Nat × Nat × O) → Option (List (C K))
  | [] => some cs
  | (off, n, x) :: r => match ev st x with
    | .b b => (match lenB b.cells n, len (off + n) cs.length with
      | true, true => fillA st (cat2 (tk off cs) (cat2 b.cells (dr (off + n) cs))) r
      | _, _ => none)
    | _ => none

def nrm (nk : Option K) (b : B K) : B K :=
  match nk with
  | none => b
  | some k => match b with
    | .c (.v (.slice none 0 0)) => .c (.im k)
    | b => b
def nkH (l : List (Option K)) : Option K := match l with | [] => none | n :: _ => n
def nkT (l : List (Option K)) : List (Option K) := match l with | [] => [] | _ :: m => m
def argsOf (st : St K) : List (Option K) → List O → Option (List (B K))
  | _, [] => some []
  | nks, x :: r => match ev st x with
    | .b b => (match b.clo with
      | true => (match argsOf st (nkT nks) r with
        | some l => some (nrm (nkH nks) b :: l)
        | none => none)
      | false => none)
    | _ => none

def binV (op : BinOp) (k : IntKind) (a b : Int) (q : Value → Prop) : Prop :=
  match op with
  | .add => q (.int k (N.th fun _ => k.wrap (a + b)))
  | .sub => q (.int k (N.th fun _ => k.wrap (a - b)))
  | .mul => q (.int k (N.th fun _ => k.wrap (a * b)))
  | .quo => (N.th fun _ => b ≠ 0) ∧ q (.int k (N.th fun _ => k.wrap (a.tdiv b)))
  | .rem => (N.th fun _ => b ≠ 0) ∧ q (.int k (N.th fun _ => a.tmod b))
  | .and => q (.int k (N.th fun _ => k.wrap (BitVec.ofInt k.bits a &&& BitVec.ofInt k.bits b).toNat))
  | .or => q (.int k (N.th fun _ => k.wrap (BitVec.ofInt k.bits a ||| BitVec.ofInt k.bits b).toNat))
  | .xor => q (.int k (N.th fun _ => k.wrap (BitVec.ofInt k.bits a ^^^ BitVec.ofInt k.bits b).toNat))
  | .shl => (N.th fun _ => 0 ≤ b) ∧ q (.int k (N.th fun _ => k.wrap (a * 2 ^ min b.toNat k.bits)))
  | .shr => (N.th fun _ => 0 ≤ b) ∧ q (.int k (N.th fun _ => a.fdiv (2 ^ min b.toNat k.bits)))
  | .eql => q (.bool (N.th fun _ => a == b))
  | .neq => q (.bool (N.th fun _ => a != b))
  | .lss => q (.bool (N.th fun _ => decide (a < b)))
  | .leq => q (.bool (N.th fun _ => decide (a ≤ b)))
  | .gtr => q (.bool (N.th fun _ => decide (a > b)))
  | .geq => q (.bool (N.th fun _ => decide (a ≥ b)))
  | .andNot => False

def optI (st : St K) (x : Option O) (z : Int) : Option Int :=
  match x with
  | none => some z
  | some o => match ev st o with
    | .b (.c (.v (.int _ a))) => some a
    | _ => none

/-- A value's operation: nothing of the objects is changed. -/
def vs (st : St K) (q : A K → Prop) : I → Prop
  | .mv x => q (ev st x)
  | .pick c x y => match ev st c with
    | .b (.c (.v (.bool b))) => (match b with | true => q (ev st x) | false => q (ev st y))
    | _ => False
  | .build T ps => match D.zobj T with
    | some (.box _ cs) => (match fillA st cs ps with | some cs' => q (.b (.g cs')) | none => False)
    | _ => False
  | .bsl own e sz ps => match own with
    | true => False
    | false => (match rowsOf st sz ps with
      | some ls => (match D.ofE e ls with | some k => (N.th fun _ => D.wf k) ∧ q (.b (.c (.im k))) | none => False)
      | none => False)
  | .ld g sz a => match ev st a with
    | .b (.c (.p i o)) => (match lk st.hp i with
      | some (.box _ cs) => (match lenB (tk sz (dr o cs)) sz with | true => asm g (tk sz (dr o cs)) q | false => False)
      | _ => False)
    | .b (.c (.pr i s n j)) => (match lk st.hp i with
      | some (.row _ k) => (match eqn s (D.sz k), len (j + sz) s with | true, true => (N.th fun _ => n < D.len k) ∧ asm g (cellsFrom D k n j sz) q | _, _ => False)
      | some (.arr _ k) => (match eqn s (D.sz k), len (j + sz) s with | true, true => (N.th fun _ => n < D.len k) ∧ asm g (cellsFrom D k n j sz) q | _, _ => False)
      | _ => False)
    | .b (.c (.ip k n j)) => (match len (j + sz) (D.sz k) with | true => asm g (cellsFrom D k n j sz) q | false => False)
    | .b (.c (.im k)) => (match D.ptr k, len sz (D.sz k) with | true, true => asm g (cellsFrom D k 0 0 sz) q | _, _ => False)
    | _ => False
  | .nilc x => match ev st x with
    | .b (.c (.p i o)) => q (.b (.c (.p i o)))
    | .b (.c (.im k)) => (match D.ptr k with | true => q (.b (.c (.im k))) | false => False)
    | _ => False
  | .bin op x y => match ev st x, ev st y with
    | .b (.c (.v (.int k a))), .b (.c (.v (.int k' b))) => (match op, decide (k = k') with
      | .shl, _ => binV N .shl k a b fun v => q (.b (.c (.v v)))
      | .shr, _ => binV N .shr k a b fun v => q (.b (.c (.v v)))
      | op, true => binV N op k a b fun v => q (.b (.c (.v v)))
      | _, false => False)
    | _, _ => False
  | .eqb neg x y => match ev st x, ev st y with
    | .b (.c (.v (.bool a))), .b (.c (.v (.bool b))) => q (.b (.c (.v (.bool (match neg with | false => N.th fun _ => a == b | true => N.th fun _ => !(a == b))))))
    | _, _ => False
  | .eqs neg x y => match ev st x, ev st y with
    | .b (.c (.v (.string a))), .b (.c (.v (.string b))) => q (.b (.c (.v (.bool (match neg with | false => N.th fun _ => a.toList == b.toList | true => N.th fun _ => !(a.toList == b.toList))))))
    | _, _ => False
  | .eqn neg x => match ev st x with
    | .b (.c (.v (.pointer none))) => q (.b (.c (.v (.bool (!neg)))))
    | .b (.c (.p _ _)) => q (.b (.c (.v (.bool neg))))
    | .b (.c (.im k)) => (match D.ptr k with | true => q (.b (.c (.v (.bool neg)))) | false => False)
    | _ => False
  | .nt x => match ev st x with
    | .b (.c (.v (.bool b))) => q (.b (.c (.v (.bool (match b with | true => false | false => true)))))
    | _ => False
  | .cv k x => match ev st x with
    | .b (.c (.v (.int _ a))) => q (.b (.c (.v (.int k (N.th fun _ => k.wrap a)))))
    | _ => False
  | .b2s x => match ev st x with
    | .b (.c (.im k)) => (match D.bts k with | some l => q (.b (.c (.v (.string (N.th fun _ => ⟨(l.map fun n => UInt8.ofNat n.toNat).toArray⟩))))) | none => False)
    | _ => False
  | .mkf f x => match x with
    | none => q (.b (.c (.fn f none)))
    | some x => (match ev st x with | .b (.c (.im k)) => q (.b (.c (.fn f (some k)))) | _ => False)
  | .slc sz x lo hi => match ev st x with
    | .b (.c (.im k)) => (match D.ptr k, eqn (D.sz k) sz, optI st lo 0, optI st hi (N.th fun _ => (D.len k : Int)) with
      | false, true, some a, some b => (match D.sub k (N.th fun _ => a.toNat) (N.th fun _ => b.toNat) with
        | some k' => (N.th fun _ => 0 ≤ a ∧ a ≤ b ∧ b ≤ (D.len k : Int)) ∧ (N.th fun _ => D.wf k') ∧ q (.b (.c (.im k')))
        | none => False)
      | _, _, _, _ => False)
    | _ => False
  | .fad off x => match ev st x with
    | .b (.c (.p i o)) => q (.b (.c (.p i (o + off))))
    | .b (.c (.ip k n j)) => q (.b (.c (.ip k n (j + off))))
    | .b (.c (.pr i s n j)) => q (.b (.c (.pr i s n (j + off))))
    | .b (.c (.im k)) => (match D.ptr k with | true => q (.b (.c (.ip k 0 off))) | false => False)
    | _ => False
  | .iad sz an x y => match ev st x, ev st y with
    | .b (.c (.im k)), .b (.c (.v (.int _ a))) => (match D.ptr k, eqn (D.sz k) sz, eqn an 0 with
      | false, true, true => (N.th fun _ => 0 ≤ a ∧ a < (D.len k : Int)) ∧ q (.b (.c (.ip k (N.th fun _ => a.toNat) 0)))
      | _, _, _ => False)
    | .b (.c (.row i)), .b (.c (.v (.int _ a))) => (match lk st.hp i with
      | some (.row _ k) => (match eqn (D.sz k) sz, eqn an 0 with
        | true, true => (N.th fun _ => 0 ≤ a ∧ a < (D.len k : Int)) ∧ q (.b (.c (.pr i sz (N.th fun _ => a.toNat) 0)))
        | _, _ => False)
      | _ => False)
    | .b (.c (.p i 0)), .b (.c (.v (.int _ a))) => (match lk st.hp i with
      | some (.arr _ k) => (match eqn (D.sz k) sz with
        | true => (N.th fun _ => 0 ≤ a ∧ a < (an : Int)) ∧ q (.b (.c (.pr i sz (N.th fun _ => a.toNat) 0)))
        | false => False)
      | _ => False)
    | _, _ => False
  | .ext x i => match ev st x with
    | .u xs => (match dr i xs with | b :: _ => q (.b b) | [] => False)
    | _ => False
  | .call f xs => match ev st f with
    | .b (.c (.fn n bk)) => (match lk R n with
      | some s => (match argsOf st (match bk with | none => s.nk | some _ => nkT s.nk) xs with
        | some l => (match lenB (match bk with | none => l | some k => .c (.im k) :: l) s.ar, s.f (match bk with | none => l | some k => .c (.im k) :: l) with | true, some (pre, r) => pre ∧ q r | _, _ => False)
        | none => False)
      | none => False)
    | _ => False
  | .len x => match ev st x with
    | .b (.c (.im k)) => (match D.ptr k with | false => q (.b (.c (.v (.int .i64 (N.th fun _ => (D.len k : Int)))))) | true => False)
    | .b (.c (.row i)) => (match lk st.hp i with | some (.row _ k) => q (.b (.c (.v (.int .i64 (N.th fun _ => (D.len k : Int)))))) | _ => False)
    | .b (.c (.v (.slice none 0 0))) => q (.b (.c (.v (.int .i64 0))))
    | _ => False
  | .mx x y => match ev st x, ev st y with
    | .b (.c (.v (.int k a))), .b (.c (.v (.int _ b))) => q (.b (.c (.v (.int k (N.th fun _ => if b > a then b else a)))))
    | _, _ => False
  | .mn x y => match ev st x, ev st y with
    | .b (.c (.v (.int k a))), .b (.c (.v (.int _ b))) => q (.b (.c (.v (.int k (N.th fun _ => if b < a then b else a)))))
    | _, _ => False
  | .mki T x => match ev st x with
    | .b (.c (.p i o)) => q (.b (.c (.ifp T i o)))
    | .b (.g cs) => (match valsOf cs with | some us => q (.b (.c (.v (.iface T (.agg ⟨us⟩))))) | none => False)
    | _ => False
  | .tas T x => match ev st x with
    | .b (.c (.v (.iface U (.agg ⟨us⟩)))) => (match eqn U T, ones us with
      | true, true => q (.u [.g (us.map .v), .c (.v (.bool true))])
      | _, _ => False)
    | _ => False
  | .callm _ _ => False
  | .inv _ _ _ _ _ => False
  | .box _ _ => False
  | .alloc _ => False
  | .sto _ _ _ => False
  | .mks _ _ _ _ _ => False
  | .app _ _ _ _ _ => False
end
end Go.Sy
