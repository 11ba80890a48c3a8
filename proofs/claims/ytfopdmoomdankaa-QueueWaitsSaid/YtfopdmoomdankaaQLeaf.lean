/- The queue's small functions keep their contracts. -/
import Derived.Test.YtfopdmoomdankaaQText
set_option linter.unusedVariables false
set_option linter.unusedSimpArgs false
namespace Go.Sy
open Go Go.Proofs Go.Q

def S41 (N : Hide) : Sp Kq := { ar := 1, nk := [none], f := fun l => match l with | [.c (.v (.int _ a))] => some (True, .b (.c (.v (.bool false)))) | _ => none }
theorem m41 (N : Hide) : Meets Try.prog (domq N).toDom 41 (S41 N) := by
  refine meets_of N [] mixq (okq N) reg_nil r41 (fun _ _ => rfl) rfl rfl (fun k h => by simp [S41] at h) fun args pre r hl hs hp => ?_
  unfold S41 at hs
  dsimp only at hs
  split at hs
  · injection hs with hs; injection hs with e1 e2; subst e1; subst e2
    cbv
    simp [N.eq]
  · cases hs

def cmpI (a b : Int) : Int := if a < b then -1 else if a > b then 1 else 0
def S30 (N : Hide) : Sp Kq := { ar := 2, nk := [none, none], f := fun l => match l with | [.c (.v (.int .i64 a)), .c (.v (.int .i64 b))] => some (True, .b (.c (.v (.int .i64 (N.th fun _ => cmpI a b))))) | _ => none }
theorem m30 (N : Hide) : Meets Try.prog (domq N).toDom 30 (S30 N) := by
  refine meets_of N [(41, S41 N)] mixq (okq N) (reg_cons (m41 N) reg_nil) r30 (fun _ _ => rfl) rfl rfl (fun k h => by simp [S30] at h) fun args pre r hl hs hp => ?_
  unfold S30 at hs
  dsimp only at hs
  split at hs
  · injection hs with hs; injection hs with e1 e2; subst e1; subst e2
    rename_i a b
    cbv
    split
    · rename_i h1
      cbv
      rw [N.eq] at h1
      have h1 := of_decide_eq_true h1
      simp [N.eq, cmpI, h1]
    · rename_i h1
      cbv
      rw [N.eq] at h1
      have h1 := of_decide_eq_false h1
      split
      · rename_i h2
        cbv
        rw [N.eq] at h2
        have h2 := of_decide_eq_true h2
        simp [N.eq, cmpI, h1, h2]
      · rename_i h2
        cbv
        rw [N.eq] at h2
        have h2 := of_decide_eq_false h2
        simp [N.eq, cmpI, h1, h2]
  · cases hs

/-- The first number that is not 0. -/
def orI : List Int → Int
  | [] => 0
  | r :: l => if r ≠ 0 then r else orI l
def S29 (N : Hide) : Sp Kq := { ar := 1, nk := [none], f := fun l => match l with | [.c (.im (.ints l))] => some (N.th fun _ => l.length < 1000, .b (.c (.v (.int .i64 (N.th fun _ => orI l))))) | _ => none }
theorem orI_drop : ∀ {l : List Int} {j : Nat}, (∀ i, i < j → iat l i = 0) → orI l = orI (l.drop j)
  | l, 0, _ => by simp
  | [], j + 1, _ => by simp
  | r :: l, j + 1, h => by
    have h0 := h 0 (by omega)
    simp only [iat, List.getD_cons_zero] at h0
    rw [List.drop_succ_cons, ← orI_drop (l := l) (j := j) fun i hi => by have := h (i + 1) (by omega); simpa [iat] using this]
    rw [orI, if_neg (by rw [h0]; simp)]
theorem thp' {N : Hide} {f : Unit → Prop} (h : N.th f) : f () := by rw [N.eq] at h; exact h
theorem m29 (N : Hide) : Meets Try.prog (domq N).toDom 29 (S29 N) := by
  refine meets_of N [] mixq (okq N) reg_nil r29 (fun _ _ => rfl) rfl rfl (fun k h => by simp [S29] at h) fun args pre r hl hs hp => ?_
  unfold S29 at hs
  dsimp only at hs
  split at hs
  · injection hs with hs; injection hs with e1 e2; subst e1; subst e2
    rename_i l
    have hp := thp' hp
    cbv
    refine ⟨Nat, fun j => j ≤ l.length ∧ ∀ i, i < j → iat l i = 0, fun j => { sl := [(3, .b (.c (.v (.int .i64 0)))), (6, .b (.c (.im (.ints l)))), (7, .b (.c (.v (.int .i64 (N.th fun _ => (l.length : Int)))))), (8, .b (.c (.v (.int .i64 (N.th fun _ => (j : Int))))))], hp := [] }, fun j => l.length - j, 0, ⟨Nat.zero_le _, fun i hi => absurd hi (Nat.not_lt_zero _)⟩, ?_, fun j ⟨hj, hz⟩ => ?_⟩
    · constructor <;> cbv
      all_goals
        try simp only [N.eq, lenK1, lenK2, lenK3]
        repeat' first | exact True.intro | exact .inl rfl | rfl | apply And.intro
    · cbv
      split
      · rename_i h1
        cbv
        simp only [N.eq] at h1
        have h1 : (j : Int) < (l.length : Int) := of_decide_eq_true h1
        have hjl : j < l.length := by omega
        refine ⟨thi ?_, ?_⟩
        · simp only [N.eq, lenK1]
          show (0 : Int) ≤ (j : Int) ∧ (j : Int) < (l.length : Int)
          omega
        · split
          · rename_i h2
            cbv
            simp only [N.eq] at h2 ⊢
            rw [orI_drop hz, List.drop_eq_getElem_cons hjl]
            simp [iat, hjl] at h2
            simp [orI, iat, hjl, h2]
          · rename_i h2
            simp only [N.eq] at h2
            obtain ⟨j', hj'⟩ : ∃ j', j' = j + 1 := ⟨_, rfl⟩
            refine ⟨j', ⟨by omega, fun i hi => ?_⟩, by show l.length - j' < l.length - j; omega, ?_⟩
            · rcases Nat.lt_or_ge i j with h | h
              · exact hz i h
              · have : i = j := by omega
                subst this
                simpa using h2
            · constructor <;> cbv
              have : IntKind.i64.wrap ((j : Int) + Int.ofNat 1) = ((j' : Nat) : Int) := by subst hj'; show IntKind.i64.wrap ((j : Int) + 1) = _; rw [IntKind.wrap_i64]; omega
              simp only [N.eq, this]
              repeat' first | exact True.intro | exact .inl rfl | rfl | apply And.intro
      · rename_i h1
        cbv
        simp only [N.eq] at h1 ⊢
        have hjl : l.length ≤ j := by simpa using h1
        rw [orI_drop hz, List.drop_of_length_le hjl]
        rfl
  · cases hs

theorem lt_eq (a b : Itm) : decide (orI [cmpI a.d b.d, cmpI a.n b.n] < 0) = lt a b := by
  simp only [orI, cmpI, lt]
  rcases Int.lt_trichotomy a.d b.d with h | h | h <;> rcases Int.lt_trichotomy a.n b.n with h' | h' | h' <;> (repeat' split) <;> simp_all <;> omega
def S82 (N : Hide) : Sp Kq := { ar := 2, nk := [none, none], f := fun l => match l with
  | [.g [.v (.int .i64 a), .v (.int .i64 b), .v (.int .i64 c)], .g [.v (.int .i64 d), .v (.int .i64 e), .v (.int .i64 f)]] => some (True, .b (.c (.v (.bool (N.th fun _ => lt ⟨a, b, c⟩ ⟨d, e, f⟩)))))
  | _ => none }
theorem m82 (N : Hide) : Meets Try.prog (domq N).toDom 82 (S82 N) := by
  refine meets_of N [(30, S30 N), (29, S29 N)] mixq (okq N) (reg_cons (m30 N) (reg_cons (m29 N) reg_nil)) r82 (fun _ _ => rfl) rfl rfl (fun k h => by simp [S82] at h) fun args pre r hl hs hp => ?_
  unfold S82 at hs
  dsimp only at hs
  split at hs
  · injection hs with hs; injection hs with e1 e2; subst e1; subst e2
    rename_i a b c d e f
    cbv
    simp only [N.eq, lenK1, lenK2, lenK3]
    refine ⟨trivial, by simp, ?_⟩
    have := lt_eq ⟨a, b, c⟩ ⟨d, e, f⟩
    show C.v (Value.bool (decide (orI [cmpI a d, cmpI b e] < 0))) = _
    rw [← this]
  · cases hs

/-! ### Methods of the heap's rows: the row is lent -/
def S79 (N : Hide) : Sp Kq := { ar := 1, nk := [none], f := fun _ => none, still := true, g := fun l hp => match l, hp with
  | [.c (.row i)], [(j, .row 58 (.items l))] => (match is0 i, is0 j with
    | true, true => some (True, .b (.c (.v (.int .i64 (N.th fun _ => (l.length : Int))))), [(1000000, .row 58 (.items l))])
    | _, _ => none)
  | _, _ => none }
theorem m79 (N : Hide) : Meets Try.prog (domq N).toDom 79 (S79 N) := by
  refine meetsM_of N [] [] mixq (okq N) reg_nil r79 (fun _ => rfl) rfl rfl (fun k h => by simp [S79] at h) fun args hp pre r hp' hl hs hpre => ?_
  unfold S79 at hs
  dsimp only at hs
  split at hs
  · split at hs
    · rename_i h1 h2
      have h1 := is0_eq h1; have h2 := is0_eq h2
      subst h1; subst h2
      injection hs with hs; injection hs with e1 e2; injection e2 with e2 e3; subst e1; subst e2; subst e3
      refine ⟨rfl, ?_⟩
      cbv
      constructor <;> cbv
      all_goals
        try simp only [N.eq, lenK1, lenK2, lenK3]
        repeat' first | exact True.intro | exact .inl rfl | rfl | apply And.intro
    · cases hs
  · cases hs

def inR (l : List Itm) (a : Int) : Prop := 0 ≤ a ∧ a < (l.length : Int)
def S80 (N : Hide) : Sp Kq := { ar := 3, nk := [none, none, none], f := fun _ => none, still := true, g := fun l hp => match l, hp with
  | [.c (.row i), .c (.v (.int .i64 a)), .c (.v (.int .i64 b))], [(j, .row 58 (.items l))] => (match is0 i, is0 j with
    | true, true => some (N.th fun _ => inR l a ∧ inR l b, .b (.c (.v (.bool (N.th fun _ => lt (at' l a.toNat) (at' l b.toNat))))), [(1000000, .row 58 (.items l))])
    | _, _ => none)
  | _, _ => none }
theorem m80 (N : Hide) : Meets Try.prog (domq N).toDom 80 (S80 N) := by
  refine meetsM_of N [(82, S82 N)] [] mixq (okq N) (reg_cons (m82 N) reg_nil) r80 (fun _ => rfl) rfl rfl (fun k h => by simp [S80] at h) fun args hp pre r hp' hl hs hpre => ?_
  unfold S80 at hs
  dsimp only at hs
  split at hs
  · split at hs
    · rename_i h1 h2
      have h1 := is0_eq h1; have h2 := is0_eq h2
      subst h1; subst h2
      injection hs with hs; injection hs with e1 e2; injection e2 with e2 e3; subst e1; subst e2; subst e3
      refine ⟨rfl, ?_⟩
      rename_i a b l _ _
      obtain ⟨pa, pb⟩ := thp' hpre
      have pa1 : a.toNat < l.length := by unfold inR at pa; omega
      have pb1 : b.toNat < l.length := by unfold inR at pb; omega
      cbv
      refine ⟨thi pa, by simp only [N.eq, lenK1, lenK2, lenK3]; exact pa1, thi pb, by simp only [N.eq, lenK1, lenK2, lenK3]; exact pb1, ?_⟩
      constructor <;> cbv
      all_goals
        try simp only [N.eq, lenK1, lenK2, lenK3]
        repeat' first | exact True.intro | exact .inl rfl | rfl | apply And.intro
    · cases hs
  · cases hs

def S81 (N : Hide) : Sp Kq := { ar := 3, nk := [none, none, none], f := fun _ => none, still := true, g := fun l hp => match l, hp with
  | [.c (.row i), .c (.v (.int .i64 a)), .c (.v (.int .i64 b))], [(j, .row 58 (.items l))] => (match is0 i, is0 j with
    | true, true => some (N.th fun _ => inR l a ∧ inR l b, .u [], [(1000000, .row 58 (.items (N.th fun _ => swp l a.toNat b.toNat)))])
    | _, _ => none)
  | _, _ => none }
theorem m81 (N : Hide) : Meets Try.prog (domq N).toDom 81 (S81 N) := by
  refine meetsM_of N [] [] mixq (okq N) reg_nil r81 (fun _ => rfl) rfl rfl (fun k h => by simp [S81] at h) fun args hp pre r hp' hl hs hpre => ?_
  unfold S81 at hs
  dsimp only at hs
  split at hs
  · split at hs
    · rename_i h1 h2
      have h1 := is0_eq h1; have h2 := is0_eq h2
      subst h1; subst h2
      injection hs with hs; injection hs with e1 e2; injection e2 with e2 e3; subst e1; subst e2; subst e3
      refine ⟨rfl, ?_⟩
      rename_i a b l _ _
      obtain ⟨pa, pb⟩ := thp' hpre
      have pa1 : a.toNat < l.length := by unfold inR at pa; omega
      have pb1 : b.toNat < l.length := by unfold inR at pb; omega
      cbv
      refine ⟨thi pb, by simp only [N.eq, lenK1, lenK2, lenK3]; exact pb1, thi pa, by simp only [N.eq, lenK1, lenK2, lenK3]; exact pa1, thi pa, by simp only [N.eq, lenK1, lenK2, lenK3]; exact pa1, thi trivial, ?_⟩
      refine ⟨thi ?_, ?_, thi trivial, ?_⟩
      · simp only [N.eq, lenK1, lenK2, lenK3]; unfold inR at pb; show _ ∧ _ < (((l.set _ _).length : Nat) : Int); rw [List.length_set]; exact pb
      · simp only [N.eq, lenK1, lenK2, lenK3]; show b.toNat < (l.set _ _).length; rw [List.length_set]; exact pb1
      · constructor <;> cbv
        all_goals
          try simp only [N.eq, lenK1, lenK2, lenK3]
          repeat' first | exact True.intro | exact .inl rfl | rfl | apply And.intro
    · cases hs
  · cases hs

def S83 (N : Hide) : Sp Kq := { ar := 1, nk := [none], f := fun _ => none, g := fun l hp => match l, hp with
  | [.c (.p i 0)], [(j, .box 54 [.row k, .v (.int .i64 z)]), (m, .row 58 (.items l))] => (match is0 i, is0 j, is1 k, is1 m with
    | true, true, true, true => some (N.th fun _ => 0 < l.length ∧ l.length < 1000000, .b (.c (.v (.iface 58 (.agg ⟨[.int .i64 (N.th fun _ => (at' l (l.length - 1)).d), .int .i64 (N.th fun _ => (at' l (l.length - 1)).n), .int .i64 (N.th fun _ => (at' l (l.length - 1)).x)]⟩)))),
        [(1000000, .box 54 [.row 1000001, .v (.int .i64 z)]), (1000001, .row 58 (.items (N.th fun _ => l.take (l.length - 1))))])
    | _, _, _, _ => none)
  | _, _ => none }
theorem wsub1 (n : Nat) (h : 0 < n) (h2 : n < 1000000) : IntKind.i64.wrap ((n : Int) - Int.ofNat 1) = ((n - 1 : Nat) : Int) := by
  show IntKind.i64.wrap ((n : Int) - 1) = _
  rw [IntKind.wrap_i64]; omega
theorem m83 (N : Hide) : Meets Try.prog (domq N).toDom 83 (S83 N) := by
  refine meetsM_of N [] [(21, 1000001)] mixq (okq N) reg_nil r83 (fun _ => rfl) rfl rfl (fun k h => by simp [S83] at h) fun args hp pre r hp' hl hs hpre => ?_
  unfold S83 at hs
  dsimp only at hs
  split at hs
  · split at hs
    · rename_i h1 h2 h3 h4
      have h1 := is0_eq h1; have h2 := is0_eq h2; have h3 := is1_eq h3; have h4 := is1_eq h4
      subst h1; subst h2; subst h3; subst h4
      injection hs with hs; injection hs with e1 e2; injection e2 with e2 e3; subst e1; subst e2; subst e3
      rename_i z l _ _ _ _
      refine ⟨rfl, ?_⟩
      obtain ⟨hp1, hp2⟩ := thp' hpre
      cbv
      have hw := wsub1 l.length hp1 hp2
      refine ⟨thi ?_, ?_, thi ?_, thi trivial, ?_⟩
      · simp only [N.eq, lenK1, lenK2, lenK3]
        show 0 ≤ IntKind.i64.wrap ((l.length : Int) - Int.ofNat 1) ∧ IntKind.i64.wrap ((l.length : Int) - Int.ofNat 1) < (l.length : Int)
        rw [hw]; omega
      · simp only [N.eq, lenK1, lenK2, lenK3]
        show (IntKind.i64.wrap ((l.length : Int) - Int.ofNat 1)).toNat < l.length
        rw [hw]; omega
      · simp only [N.eq, lenK1, lenK2, lenK3]
        show 0 ≤ IntKind.i64.wrap ((l.length : Int) - Int.ofNat 1) ∧ IntKind.i64.wrap ((l.length : Int) - Int.ofNat 1) ≤ (l.length : Int)
        rw [hw]; omega
      · constructor <;> cbv
        all_goals
          try simp only [N.eq, lenK1, lenK2, lenK3, hw, Int.toNat_natCast, List.drop_zero, Nat.sub_zero]
          repeat' first | exact True.intro | exact .inl rfl | rfl | apply And.intro
    · cases hs
  · cases hs
def S84 (N : Hide) : Sp Kq := { ar := 2, nk := [none, none], f := fun _ => none, g := fun l hp => match l, hp with
  | [.c (.p i 0), .c (.v (.iface 58 (.agg ⟨[.int .i64 a, .int .i64 b, .int .i64 c]⟩)))], [(j, .box 54 [.row k, .v (.int .i64 z)]), (m, .row 58 (.items l))] => (match is0 i, is0 j, is1 k, is1 m with
    | true, true, true, true => some (N.th fun _ => l.length < 1000000, .u [],
        [(1000000, .box 54 [.row 1000001, .v (.int .i64 z)]), (1000001, .row 58 (.items (N.th fun _ => l ++ [⟨a, b, c⟩])))])
    | _, _, _, _ => none)
  | _, _ => none }
theorem m84 (N : Hide) : Meets Try.prog (domq N).toDom 84 (S84 N) := by
  refine meetsM_of N [] [(18, 1000001)] mixq (okq N) reg_nil r84 (fun _ => rfl) rfl rfl (fun k h => by simp [S84] at h) fun args hp pre r hp' hl hs hpre => ?_
  unfold S84 at hs
  dsimp only at hs
  split at hs
  · split at hs
    · rename_i h1 h2 h3 h4
      have h1 := is0_eq h1; have h2 := is0_eq h2; have h3 := is1_eq h3; have h4 := is1_eq h4
      subst h1; subst h2; subst h3; subst h4
      injection hs with hs; injection hs with e1 e2; injection e2 with e2 e3; subst e1; subst e2; subst e3
      rename_i a b c z l _ _ _ _
      refine ⟨rfl, ?_⟩
      have hp1 : l.length < 1000000 := thp' hpre
      cbv
      refine ⟨thi trivial, thi ?_, thi trivial, ?_⟩
      · show l.length + 1 ≤ 70368744177664 ∧ (l.length + 1) * 24 ≤ 140737488355328
        omega
      · constructor <;> cbv
        all_goals
          try simp only [N.eq, lenK1, lenK2, lenK3]
          repeat' first | exact True.intro | exact .inl rfl | rfl | apply And.intro
    · cases hs
  · cases hs
end Go.Sy
