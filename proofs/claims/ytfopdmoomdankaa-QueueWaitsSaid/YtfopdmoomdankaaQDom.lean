/- The queue's known data: rows of integers, rows of items. -/
import Derived.Test.YtfopdmoomdankaaSyU
import Derived.Test.YtfopdmoomdankaaPHeap
set_option linter.unusedVariables false
set_option linter.unusedSimpArgs false
namespace Go.Sy
open Go Go.Q

inductive Kq where
  | ints (l : List Int)
  | items (l : List Itm)
  | pairs (l : List (Int × Int))

def iv (n : Int) : C Kq := .v (.int .i64 n)
def rowI (n : Int) : List (C Kq) := [iv n]
def rowT (x : Itm) : List (C Kq) := [iv x.d, iv x.n, iv x.x]
def rowP (x : Int × Int) : List (C Kq) := [iv x.1, iv x.2]
def rowsK : Kq → List (List (C Kq))
  | .ints l => l.map rowI
  | .items l => l.map rowT
  | .pairs l => l.map rowP
def szK : Kq → Nat
  | .ints _ => 1
  | .items _ => 3
  | .pairs _ => 2
def lenK : Kq → Nat
  | .ints l => l.length
  | .items l => l.length
  | .pairs l => l.length
def flq (k : Kq) : List (C Kq) := (rowsK k).flatten
def iat (l : List Int) (i : Nat) : Int := l.getD i 0
def pat (l : List (Int × Int)) (i : Nat) : Int × Int := l.getD i (0, 0)
def cellK (N : Hide) : Kq → Nat → Nat → C Kq
  | .ints l, i, _ => iv (N.th fun _ => iat l i)
  | .items l, i, j => (match j with | 0 => iv (N.th fun _ => (at' l i).d) | 1 => iv (N.th fun _ => (at' l i).n) | _ => iv (N.th fun _ => (at' l i).x))
  | .pairs l, i, j => (match j with | 0 => iv (N.th fun _ => (pat l i).1) | _ => iv (N.th fun _ => (pat l i).2))

theorem rowsK_len (k : Kq) : ∀ r ∈ rowsK k, r.length = szK k := by
  intro r hr
  cases k <;> (obtain ⟨x, _, rfl⟩ := List.mem_map.1 hr; rfl)
theorem rowsK_length (k : Kq) : (rowsK k).length = lenK k := by cases k <;> simp [rowsK, lenK]
theorem flat_uni {α : Type} {s : Nat} : ∀ {l : List (List α)}, (∀ r ∈ l, r.length = s) → l.flatten.length = l.length * s
  | [], _ => by simp
  | r :: l, h => by
    rw [List.flatten_cons, List.length_append, flat_uni fun x hx => h x (by simp [hx]), h r (by simp), List.length_cons, Nat.succ_mul, Nat.add_comm]
theorem flat_at {α : Type} {s : Nat} : ∀ {l : List (List α)} {i j : Nat}, (∀ r ∈ l, r.length = s) → j < s → l.flatten[i * s + j]? = (l[i]?).bind (·[j]?)
  | [], i, j, _, _ => by simp
  | r :: l, 0, j, h, hj => by
    rw [List.flatten_cons, Nat.zero_mul, Nat.zero_add, List.getElem?_append_left (by rw [h r (by simp)]; exact hj)]
    rfl
  | r :: l, i + 1, j, h, hj => by
    have hr := h r (by simp)
    rw [List.flatten_cons, List.getElem?_append_right (by rw [hr, Nat.succ_mul]; omega), hr, show (i + 1) * s + j - s = i * s + j by rw [Nat.succ_mul]; omega]
    rw [flat_at (fun x hx => h x (by simp [hx])) hj]
    simp
theorem flat_drop {α : Type} {s : Nat} : ∀ {l : List (List α)} {i : Nat}, (∀ r ∈ l, r.length = s) → l.flatten.drop (i * s) = (l.drop i).flatten
  | l, 0, _ => by simp
  | [], i + 1, _ => by simp
  | r :: l, i + 1, h => by
    have hr := h r (by simp)
    rw [List.flatten_cons, List.drop_succ_cons, ← flat_drop (l := l) (i := i) fun x hx => h x (by simp [hx])]
    rw [show (i + 1) * s = r.length + i * s by rw [hr, Nat.succ_mul]; omega, List.drop_length_add_append]
theorem flat_take {α : Type} {s : Nat} : ∀ {l : List (List α)} {i : Nat}, (∀ r ∈ l, r.length = s) → l.flatten.take (i * s) = (l.take i).flatten
  | l, 0, _ => by simp
  | [], i + 1, _ => by simp
  | r :: l, i + 1, h => by
    have hr := h r (by simp)
    rw [List.flatten_cons, List.take_succ_cons, List.flatten_cons, ← flat_take (l := l) (i := i) fun x hx => h x (by simp [hx])]
    rw [show (i + 1) * s = r.length + i * s by rw [hr, Nat.succ_mul]; omega, List.take_length_add_append]
/-- A row of rows: one row is set. -/
theorem flat_set {α : Type} {s : Nat} {l : List (List α)} {n : Nat} {xs : List α} (h : ∀ r ∈ l, r.length = s) (hn : n < l.length) (hx : xs.length = s) :
    (l.set n xs).flatten = l.flatten.take (n * s) ++ xs ++ l.flatten.drop (n * s + xs.length) := by
  rw [flat_take h, hx, ← Nat.succ_mul, flat_drop h, List.set_eq_take_append_cons_drop, if_pos hn]
  simp

def intC : C Kq → Option Int
  | .v (.int .i64 n) => some n
  | _ => none
theorem intC_eq {x : C Kq} {n : Int} (h : intC x = some n) : x = iv n := by
  unfold intC at h
  split at h
  · injection h with h; subst h; rfl
  · cases h
def int1 : List (C Kq) → Option Int
  | [x] => intC x
  | _ => none
theorem int1_eq {l : List (C Kq)} {n : Int} (h : int1 l = some n) : l = rowI n := by
  unfold int1 at h
  split at h
  · rw [intC_eq h]; rfl
  · cases h
def int2 : List (C Kq) → Option (Int × Int)
  | [x, y] => (match intC x, intC y with | some a, some b => some (a, b) | _, _ => none)
  | _ => none
theorem int2_eq {l : List (C Kq)} {n : Int × Int} (h : int2 l = some n) : l = rowP n := by
  unfold int2 at h
  split at h
  · split at h
    · rename_i h1 h2
      injection h with h; subst h
      rw [intC_eq h1, intC_eq h2]; rfl
    · cases h
  · cases h
def int3 : List (C Kq) → Option Itm
  | [x, y, z] => (match intC x, intC y, intC z with | some a, some b, some c => some ⟨a, b, c⟩ | _, _, _ => none)
  | _ => none
theorem int3_eq {l : List (C Kq)} {n : Itm} (h : int3 l = some n) : l = rowT n := by
  unfold int3 at h
  split at h
  · split at h
    · rename_i h1 h2 h3
      injection h with h; subst h
      rw [intC_eq h1, intC_eq h2, intC_eq h3]; rfl
    · cases h
  · cases h
def all1 {α : Type} (f : List (C Kq) → Option α) : List (List (C Kq)) → Option (List α)
  | [] => some []
  | x :: r => (match f x, all1 f r with | some a, some l => some (a :: l) | _, _ => none)
theorem all1_eq {α : Type} {f : List (C Kq) → Option α} {g : α → List (C Kq)} (hf : ∀ x a, f x = some a → x = g a) : ∀ {xs : List (List (C Kq))} {l : List α}, all1 f xs = some l → xs = l.map g
  | [], l, h => by simp only [all1, Option.some.injEq] at h; subst h; rfl
  | x :: r, l, h => by
    simp only [all1] at h
    split at h
    · rename_i a l' h1 h2
      injection h with h; subst h
      rw [List.map_cons, hf x a h1, all1_eq hf h2]
    · cases h

/-! ### The domain -/
def zq : TypeId → Option (Ob Kq)
  | 54 => some (.box 54 [.v (.slice none 0 0), .v (.int .i64 0)])
  | 58 => some (.box 58 [.v (.int .i64 0), .v (.int .i64 0), .v (.int .i64 0)])
  | _ => none

def domq0 (N : Hide) : Dom Kq where
  ptr _ := false
  sz := szK
  flat := flq
  len := lenK
  cell := cellK N
  wf _ := True
  flat_len k := by rw [flq, flat_uni (rowsK_len k), rowsK_length]
  cell_eq k i j hi hj := by
    rw [flq, flat_at (rowsK_len k) hj]
    cases k with
    | ints l =>
      have hi : i < l.length := hi
      have hj : j < 1 := hj
      obtain rfl : j = 0 := by omega
      simp [rowsK, hi, rowI, cellK, N.eq, iat]
    | items l =>
      have hi : i < l.length := hi
      have hj : j < 3 := hj
      match j, hj with
      | 0, _ => simp [rowsK, hi, rowT, cellK, N.eq, at']
      | 1, _ => simp [rowsK, hi, rowT, cellK, N.eq, at']
      | 2, _ => simp [rowsK, hi, rowT, cellK, N.eq, at']
    | pairs l =>
      have hi : i < l.length := hi
      have hj : j < 2 := hj
      match j, hj with
      | 0, _ => simp [rowsK, hi, rowP, cellK, N.eq, pat]
      | 1, _ => simp [rowsK, hi, rowP, cellK, N.eq, pat]
  ptr_len k h := by cases h

def catq (N : Hide) : Kq → Kq → Option Kq
  | .ints l, .ints m => some (.ints (N.th fun _ => l ++ m))
  | .items l, .items m => some (.items (N.th fun _ => l ++ m))
  | .pairs l, .pairs m => some (.pairs (N.th fun _ => l ++ m))
  | _, _ => none
def setq (N : Hide) (k : Kq) (n j : Nat) (xs : List (C Kq)) : Option Kq :=
  match j with
  | 0 => (match k with
    | .ints l => (match int1 xs with | some a => some (.ints (N.th fun _ => l.set n a)) | none => none)
    | .items l => (match int3 xs with | some a => some (.items (N.th fun _ => l.set n a)) | none => none)
    | .pairs l => (match int2 xs with | some a => some (.pairs (N.th fun _ => l.set n a)) | none => none))
  | _ => none
def subq (N : Hide) : Kq → Nat → Nat → Option Kq
  | .ints l, lo, hi => some (.ints (N.th fun _ => (l.drop lo).take (hi - lo)))
  | .items l, lo, hi => some (.items (N.th fun _ => (l.drop lo).take (hi - lo)))
  | .pairs l, lo, hi => some (.pairs (N.th fun _ => (l.drop lo).take (hi - lo)))
def ofEq (e : TypeId) (ls : List (List (C Kq))) : Option Kq :=
  match e with
  | 3 => (match all1 int1 ls with | some l => some (.ints l) | none => none)
  | 58 => (match all1 int3 ls with | some l => some (.items l) | none => none)
  | 42 => (match all1 int3 ls with | some l => some (.items l) | none => none)
  | 44 => (match all1 int2 ls with | some l => some (.pairs l) | none => none)
  | _ => none
def nilq (e : TypeId) : Option Kq :=
  match e with
  | 3 => some (.ints [])
  | 58 => some (.items [])
  | 42 => some (.items [])
  | 44 => some (.pairs [])
  | _ => none

theorem map_set {α β : Type} (f : α → β) (l : List α) (n : Nat) (a : α) : (l.set n a).map f = (l.map f).set n (f a) := by simp
theorem flq_set {k k' : Kq} {n : Nat} {xs : List (C Kq)} (hn : n < lenK k) (hx : xs.length = szK k) (hr : rowsK k' = (rowsK k).set n xs) :
    flq k' = (flq k).take (n * szK k + 0) ++ xs ++ (flq k).drop (n * szK k + 0 + xs.length) := by
  rw [flq, hr, flat_set (rowsK_len k) (by rw [rowsK_length]; exact hn) hx]
  rfl

def domq (N : Hide) : Dx Kq where
  toDom := domq0 N
  zobj := zq
  zeros _ _ := none
  zc _ := []
  ofE := ofEq
  cat := catq N
  set := setq N
  sub := subq N
  bts _ := none
  ofBox _ _ := none
  nil := nilq
  zeros_law _ _ _ h := by cases h
  ofE_law e ls k h := by
    unfold ofEq at h
    split at h
    all_goals first
      | (split at h
         · rename_i l hl
           injection h with h; subst h
           first
             | (have := all1_eq (g := rowI) (fun _ _ h => int1_eq h) hl; subst this; exact ⟨rfl, by simp [domq0, lenK], rfl⟩)
             | (have := all1_eq (g := rowT) (fun _ _ h => int3_eq h) hl; subst this; exact ⟨rfl, by simp [domq0, lenK], rfl⟩)
             | (have := all1_eq (g := rowP) (fun _ _ h => int2_eq h) hl; subst this; exact ⟨rfl, by simp [domq0, lenK], rfl⟩)
         · cases h)
      | cases h
  cat_law k k2 k' _ h := by
    cases k <;> cases k2 <;> first
      | (simp only [catq, N.eq, Option.some.injEq] at h; subst h; refine ⟨rfl, rfl, rfl, rfl, ?_, ?_⟩ <;> simp [domq0, lenK, flq, rowsK])
      | cases h
  set_law k n j xs k' h _ hn hj := by
    unfold setq at h
    split at h
    · cases k with
      | ints l =>
        simp only at h
        split at h
        · rename_i a ha
          simp only [N.eq, Option.some.injEq] at h
          subst h
          have := int1_eq ha; subst this
          exact ⟨rfl, rfl, by simp [domq0, lenK], flq_set (k := .ints l) (k' := .ints (l.set n a)) hn rfl (by simp [rowsK])⟩
        · cases h
      | items l =>
        simp only at h
        split at h
        · rename_i a ha
          simp only [N.eq, Option.some.injEq] at h
          subst h
          have := int3_eq ha; subst this
          exact ⟨rfl, rfl, by simp [domq0, lenK], flq_set (k := .items l) (k' := .items (l.set n a)) hn rfl (by simp [rowsK])⟩
        · cases h
      | pairs l =>
        simp only at h
        split at h
        · rename_i a ha
          simp only [N.eq, Option.some.injEq] at h
          subst h
          have := int2_eq ha; subst this
          exact ⟨rfl, rfl, by simp [domq0, lenK], flq_set (k := .pairs l) (k' := .pairs (l.set n a)) hn rfl (by simp [rowsK])⟩
        · cases h
    · cases h
  sub_law k lo hi k' h _ h1 h2 := by
    have key : ∀ {k k' : Kq}, szK k' = szK k → rowsK k' = ((rowsK k).drop lo).take (hi - lo) → lo ≤ hi → hi ≤ lenK k → (domq0 N).ptr k' = false ∧ szK k' = szK k ∧ lenK k' = hi - lo ∧ flq k' = ((flq k).drop (lo * szK k)).take ((hi - lo) * szK k) := by
      intro k k' hs hr h1 h2
      refine ⟨rfl, hs, ?_, ?_⟩
      · rw [← rowsK_length, hr, List.length_take, List.length_drop, rowsK_length]; omega
      · rw [flq, hr, flq, flat_drop (rowsK_len k), flat_take fun r hr => rowsK_len k r (List.mem_of_mem_drop hr)]
    cases k with
    | ints l => simp only [subq, N.eq, Option.some.injEq] at h; subst h; exact key (k := .ints l) (k' := .ints ((l.drop lo).take (hi - lo))) rfl (by simp [rowsK, List.map_drop, List.map_take]) h1 h2
    | items l => simp only [subq, N.eq, Option.some.injEq] at h; subst h; exact key (k := .items l) (k' := .items ((l.drop lo).take (hi - lo))) rfl (by simp [rowsK, List.map_drop, List.map_take]) h1 h2
    | pairs l => simp only [subq, N.eq, Option.some.injEq] at h; subst h; exact key (k := .pairs l) (k' := .pairs ((l.drop lo).take (hi - lo))) rfl (by simp [rowsK, List.map_drop, List.map_take]) h1 h2
  bts_law _ _ h := by cases h
  ofBox_law _ _ _ h := by cases h
  nil_law e k h := by
    unfold nilq at h
    split at h
    all_goals first
      | (injection h with h; subst h; exact ⟨rfl, rfl⟩)
      | cases h

theorem lenK1 (l : List Int) : lenK (.ints l) = l.length := rfl
theorem lenK3 (l : List Itm) : lenK (.items l) = l.length := rfl
theorem lenK2 (l : List (Int × Int)) : lenK (.pairs l) = l.length := rfl
theorem itm_eta (x : Itm) : (⟨x.d, x.n, x.x⟩ : Itm) = x := rfl
theorem thi {N : Hide} {f : Unit → Prop} (h : f ()) : N.th f := by rw [N.eq]; exact h
def is0 (i : Nat) : Bool := eqn i 1000000
def is1 (i : Nat) : Bool := eqn i 1000001
theorem is0_eq {i : Nat} (h : is0 i = true) : i = 1000000 := eqn_true h
theorem is1_eq {i : Nat} (h : is1 i = true) : i = 1000001 := eqn_true h
end Go.Sy
