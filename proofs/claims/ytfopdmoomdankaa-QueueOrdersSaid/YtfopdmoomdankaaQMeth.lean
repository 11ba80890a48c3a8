/- The heap's and the queue's functions keep their contracts. -/
import Derived.Test.YtfopdmoomdankaaQHeap
set_option linter.unusedVariables false
set_option linter.unusedSimpArgs false
namespace Go.Sy
open Go Go.Proofs Go.Q

def S24 (N : Hide) : Sp Kq := { ar := 2, nk := [none, none], f := fun _ => none, g := fun l hp => match l, hp with
  | [.c (.ifp 56 i 0), .c (.v (.iface 58 (.agg ⟨[.int .i64 a, .int .i64 b, .int .i64 c]⟩)))], [(j, .box 54 [.row k, .v (.int .i64 z)]), (m, .row 58 (.items l))] => (match is0 i, is0 j, is1 k, is1 m with
    | true, true, true, true => some (N.th fun _ => l.length < 900000, .u [],
        [(1000000, .box 54 [.row 1000001, .v (.int .i64 z)]), (1000001, .row 58 (.items (N.th fun _ => pushQ l ⟨a, b, c⟩)))])
    | _, _, _, _ => none)
  | _, _ => none }
theorem m24 (N : Hide) : Meets Try.prog (domq N).toDom 24 (S24 N) := by
  refine meetsM_of N [(84, S84 N), (79, S79 N), (36, S36 N)] [(6, 1000001), (1006, 1000001)] mixq (okq N) (reg_cons (m84 N) (reg_cons (m79 N) (reg_cons (m36 N) reg_nil))) r24 (fun _ => rfl) rfl rfl (fun k h => by simp [S24] at h) fun args hp pre r hp' hl hs hpre => ?_
  unfold S24 at hs
  dsimp only at hs
  split at hs
  · split at hs
    · rename_i h1 h2 h3 h4
      have h1 := is0_eq h1; have h2 := is0_eq h2; have h3 := is1_eq h3; have h4 := is1_eq h4
      subst h1; subst h2; subst h3; subst h4
      injection hs with hs; injection hs with e1 e2; injection e2 with e2 e3; subst e1; subst e2; subst e3
      rename_i a b c z l _ _ _ _
      refine ⟨rfl, ?_⟩
      have hq := thp' hpre
      cbv
      have hw := wsub1 (l.length + 1) (by omega) (by omega)
      have e1 : (l ++ [(⟨a, b, c⟩ : Itm)]).length = l.length + 1 := by simp
      repeat' refine And.intro (thi ?_) ?_
      · omega
      · simp only [N.eq, lenK3, e1, hw]
        refine ⟨by show (0 : Int) ≤ ((l.length + 1 - 1 : Nat) : Int); omega, by show ((l.length + 1 - 1 : Nat) : Int) < ((l.length + 1 : Nat) : Int); omega, by omega⟩
      · constructor <;> cbv
        all_goals
          try simp only [N.eq, lenK3, e1, hw, Int.toNat_natCast, Nat.add_sub_cancel]
          repeat' first | exact True.intro | exact .inl rfl | rfl | apply And.intro
    · cases hs
  · cases hs
def S25 (N : Hide) : Sp Kq := { ar := 1, nk := [none], f := fun _ => none, g := fun l hp => match l, hp with
  | [.c (.ifp 56 i 0)], [(j, .box 54 [.row k, .v (.int .i64 z)]), (m, .row 58 (.items l))] => (match is0 i, is0 j, is1 k, is1 m with
    | true, true, true, true => some (N.th fun _ => 0 < l.length ∧ l.length < 1000000, .b (.c (.v (.iface 58 (.agg ⟨[.int .i64 (N.th fun _ => (at' l 0).d), .int .i64 (N.th fun _ => (at' l 0).n), .int .i64 (N.th fun _ => (at' l 0).x)]⟩)))),
        [(1000000, .box 54 [.row 1000001, .v (.int .i64 z)]), (1000001, .row 58 (.items (N.th fun _ => popQ l)))])
    | _, _, _, _ => none)
  | _, _ => none }
theorem m25 (N : Hide) : Meets Try.prog (domq N).toDom 25 (S25 N) := by
  refine meetsM_of N [(79, S79 N), (81, S81 N), (37, S37 N), (83, S83 N)] [(14, 1000001), (1014, 1000001)] mixq (okq N) (reg_cons (m79 N) (reg_cons (m81 N) (reg_cons (m37 N) (reg_cons (m83 N) reg_nil)))) r25 (fun _ => rfl) rfl rfl (fun k h => by simp [S25] at h) fun args hp pre r hp' hl hs hpre => ?_
  unfold S25 at hs
  dsimp only at hs
  split at hs
  · split at hs
    · rename_i h1 h2 h3 h4
      have h1 := is0_eq h1; have h2 := is0_eq h2; have h3 := is1_eq h3; have h4 := is1_eq h4
      subst h1; subst h2; subst h3; subst h4
      injection hs with hs; injection hs with e1 e2; injection e2 with e2 e3; subst e1; subst e2; subst e3
      rename_i z l _ _ _ _
      refine ⟨rfl, ?_⟩
      have hq := thp' hpre
      obtain ⟨q1, q2⟩ := hq
      cbv
      have hw := wsub1 l.length q1 q2
      have i0 : inR l 0 := inR_of (j := 0) q1
      have i1 : inR l ((l.length - 1 : Nat) : Int) := inR_of (by omega)
      have hL := downH_len l.length (swp l 0 (l.length - 1)) 0 (l.length - 1)
      rw [swp_len] at hL
      have hF : at' (downH l.length (swp l 0 (l.length - 1)) 0 (l.length - 1)) (l.length - 1) = at' l 0 := by
        rw [downH_rest _ _ _ _ _ (by rw [swp_len]; omega) (Nat.le_refl _), swp_at (by omega) (by omega), if_pos rfl]
      have t0 : (Int.ofNat 0).toNat = 0 := rfl
      repeat' refine And.intro (thi ?_) ?_
      · simp only [N.eq, lenK3, hw]
        exact ⟨i0, i1⟩
      · simp only [N.eq, lenK3, hw, swp_len, Int.toNat_natCast]
        refine ⟨by decide, by show (0 : Int) < ((l.length : Nat) : Int); omega, by show (0 : Int) ≤ ((l.length - 1 : Nat) : Int); omega, by show ((l.length - 1 : Nat) : Int) ≤ ((l.length : Nat) : Int); omega, q2⟩
      · simp only [N.eq, lenK3, hw, swp_len, Int.toNat_natCast, downH_len]
        exact ⟨q1, q2⟩
      · constructor <;> cbv
        · simp only [N.eq, lenK3, hw, swp_len, Int.toNat_natCast, hL, t0, hF]
          repeat' first | exact True.intro | exact .inl rfl | rfl | apply And.intro
        · simp only [N.eq, lenK3, hw, swp_len, Int.toNat_natCast, hL, t0, popQ]
          repeat' first | exact True.intro | exact .inl rfl | rfl | apply And.intro
    · cases hs
  · cases hs
def S12 (N : Hide) : Sp Kq := { ar := 1, nk := [none], f := fun _ => none, still := true, g := fun l hp => match l, hp with
  | [.c (.p i 0)], [(j, .box 54 [.row k, .v (.int .i64 z)]), (m, .row 58 (.items l))] => (match is0 i, is0 j, is1 k, is1 m with
    | true, true, true, true => some (N.th fun _ => True, .b (.c (.v (.int .i64 (N.th fun _ => (l.length : Int))))),
        [(1000000, .box 54 [.row 1000001, .v (.int .i64 z)]), (1000001, .row 58 (.items l))])
    | _, _, _, _ => none)
  | _, _ => none }
theorem m12 (N : Hide) : Meets Try.prog (domq N).toDom 12 (S12 N) := by
  refine meetsM_of N [] [] mixq (okq N) reg_nil r12 (fun _ => rfl) rfl rfl (fun k h => by simp [S12] at h) fun args hp pre r hp' hl hs hpre => ?_
  unfold S12 at hs
  dsimp only at hs
  split at hs
  · split at hs
    · rename_i h1 h2 h3 h4
      have h1 := is0_eq h1; have h2 := is0_eq h2; have h3 := is1_eq h3; have h4 := is1_eq h4
      subst h1; subst h2; subst h3; subst h4
      injection hs with hs; injection hs with e1 e2; injection e2 with e2 e3; subst e1; subst e2; subst e3
      rename_i z l _ _ _ _
      refine ⟨rfl, ?_⟩
      have hq := thp' hpre
      cbv
      constructor <;> cbv
      all_goals
        try simp only [N.eq, lenK1, lenK3]
        repeat' first | exact True.intro | exact .inl rfl | rfl | apply And.intro

    · cases hs
  · cases hs
def S19 (N : Hide) : Sp Kq := { ar := 1, nk := [none], f := fun _ => none, still := true, g := fun l hp => match l, hp with
  | [.c (.p i 0)], [(j, .box 54 [.row k, .v (.int .i64 z)]), (m, .row 58 (.items l))] => (match is0 i, is0 j, is1 k, is1 m with
    | true, true, true, true => some (N.th fun _ => l.length < 1000000, .u [.c (.v (.int .i64 (N.th fun _ => if l.length = 0 then 0 else (at' l 0).d))), .c (.v (.bool (N.th fun _ => decide (l.length ≠ 0))))],
        [(1000000, .box 54 [.row 1000001, .v (.int .i64 z)]), (1000001, .row 58 (.items l))])
    | _, _, _, _ => none)
  | _, _ => none }
theorem m19 (N : Hide) : Meets Try.prog (domq N).toDom 19 (S19 N) := by
  refine meetsM_of N [(12, S12 N)] [] mixq (okq N) (reg_cons (m12 N) reg_nil) r19 (fun _ => rfl) rfl rfl (fun k h => by simp [S19] at h) fun args hp pre r hp' hl hs hpre => ?_
  unfold S19 at hs
  dsimp only at hs
  split at hs
  · split at hs
    · rename_i h1 h2 h3 h4
      have h1 := is0_eq h1; have h2 := is0_eq h2; have h3 := is1_eq h3; have h4 := is1_eq h4
      subst h1; subst h2; subst h3; subst h4
      injection hs with hs; injection hs with e1 e2; injection e2 with e2 e3; subst e1; subst e2; subst e3
      rename_i z l _ _ _ _
      refine ⟨rfl, ?_⟩
      have hq := thp' hpre
      cbv
      split
      · rename_i h5
        simp only [N.eq] at h5
        have h5 : l.length = 0 := by have := eq_of_beq h5; exact Int.ofNat.inj this
        cbv
        refine And.intro (thi trivial) ?_
        constructor <;> cbv
        all_goals
          try simp only [N.eq, lenK1, lenK3, if_pos h5, h5, if_true, ne_eq, not_true_eq_false, decide_false]
          repeat' first | exact True.intro | exact .inl rfl | rfl | apply And.intro
      · rename_i h5
        simp only [N.eq] at h5
        have h5 : l.length ≠ 0 := by
          intro h
          rw [h] at h5
          exact absurd h5 (by decide)
        cbv
        repeat' refine And.intro (thi ?_) ?_
        · trivial
        · simp only [N.eq, lenK3]
          exact ⟨by decide, by show (0 : Int) < ((l.length : Nat) : Int); omega⟩
        · simp only [N.eq, lenK3]
          show 0 < l.length
          omega
        · constructor <;> cbv
          all_goals
            try simp only [N.eq, lenK1, lenK3, if_neg h5, ne_eq, h5, not_false_eq_true, decide_true]
            repeat' first | exact True.intro | exact .inl rfl | rfl | apply And.intro
    · cases hs
  · cases hs
def putE (l : List Itm) (due : Int) : Int := if due < 0 ∨ due > 1099511627776 then 2 else if 4096 ≤ l.length then 4 else 0
def putZ (l : List Itm) (z due : Int) : Int := if putE l due = 0 then z + 1 else z
def putL (l : List Itm) (z due x : Int) : List Itm := if putE l due = 0 then pushQ l ⟨due, z + 1, x⟩ else l
theorem thb {N : Hide} {f : Unit → Bool} {b : Bool} (h : N.th f = b) : f () = b := by rw [N.eq] at h; exact h
def S10 (N : Hide) : Sp Kq := { ar := 3, nk := [none, none, none], f := fun _ => none, g := fun l hp => match l, hp with
  | [.c (.p i 0), .c (.v (.int .i64 due)), .c (.v (.int .i64 x))], [(j, .box 54 [.row k, .v (.int .i64 z)]), (m, .row 58 (.items l))] => (match is0 i, is0 j, is1 k, is1 m with
    | true, true, true, true => some (N.th fun _ => (0 ≤ z ∧ z < 1000000000000) ∧ l.length < 800000, .b (.c (.v (.int .i64 (N.th fun _ => putE l due)))),
        [(1000000, .box 54 [.row 1000001, .v (.int .i64 (N.th fun _ => putZ l z due))]), (1000001, .row 58 (.items (N.th fun _ => putL l z due x)))])
    | _, _, _, _ => none)
  | _, _ => none }
theorem m10 (N : Hide) : Meets Try.prog (domq N).toDom 10 (S10 N) := by
  refine meetsM_of N [(24, S24 N)] [(43, 1000001), (1043, 1000001)] mixq (okq N) (reg_cons (m24 N) reg_nil) r10 (fun _ => rfl) rfl rfl (fun k h => by simp [S10] at h) fun args hp pre r hp' hl hs hpre => ?_
  unfold S10 at hs
  dsimp only at hs
  split at hs
  · split at hs
    · rename_i h1 h2 h3 h4
      have h1 := is0_eq h1; have h2 := is0_eq h2; have h3 := is1_eq h3; have h4 := is1_eq h4
      subst h1; subst h2; subst h3; subst h4
      injection hs with hs; injection hs with e1 e2; injection e2 with e2 e3; subst e1; subst e2; subst e3
      rename_i due x z l _ _ _ _
      refine ⟨rfl, ?_⟩
      have hq := thp' hpre
      obtain ⟨⟨q1, q2⟩, q3⟩ := hq
      have stop1 : (due < 0 ∨ due > 1099511627776) → putE l due = 2 := fun h => if_pos h
      have stop2 : ¬(due < 0 ∨ due > 1099511627776) → 4096 ≤ l.length → putE l due = 4 := fun h h' => by rw [putE, if_neg h, if_pos h']
      have go : ¬(due < 0 ∨ due > 1099511627776) → ¬ 4096 ≤ l.length → putE l due = 0 := fun h h' => by rw [putE, if_neg h, if_neg h']
      cbv
      split
      · rename_i h5
        have h5 : due < 0 := by have h5 := of_decide_eq_true (thb h5); exact h5
        have hE := stop1 (.inl h5)
        cbv
        repeat' refine And.intro (thi ?_) ?_
        constructor <;> cbv
        all_goals
          try simp only [N.eq, lenK1, lenK3, putZ, putL, hE, if_true, show ¬((2 : Int) = 0) by decide, show ¬((4 : Int) = 0) by decide, if_false]
          repeat' first | exact True.intro | exact .inl rfl | rfl | apply And.intro

      · rename_i h5
        have h5 : ¬ due < 0 := by have h5 := of_decide_eq_false (thb h5); exact h5
        cbv
        split
        · rename_i h6
          have h6 : due > 1099511627776 := by have h6 := of_decide_eq_true (thb h6); exact h6
          have hE := stop1 (.inr h6)
          cbv
          repeat' refine And.intro (thi ?_) ?_
          constructor <;> cbv
          all_goals
            try simp only [N.eq, lenK1, lenK3, putZ, putL, hE, if_true, show ¬((2 : Int) = 0) by decide, show ¬((4 : Int) = 0) by decide, if_false]
            repeat' first | exact True.intro | exact .inl rfl | rfl | apply And.intro

        · rename_i h6
          have h6 : ¬ due > 1099511627776 := by have h6 := of_decide_eq_false (thb h6); exact h6
          cbv
          split
          · rename_i h7
            have h7 : ((l.length : Nat) : Int) ≥ 4096 := by have h7 := of_decide_eq_true (thb h7); simp only [N.eq] at h7; exact h7
            have hE := stop2 (fun h => h.elim h5 h6) (by omega)
            cbv
            repeat' refine And.intro (thi ?_) ?_
            constructor <;> cbv
            all_goals
              try simp only [N.eq, lenK1, lenK3, putZ, putL, hE, if_true, show ¬((2 : Int) = 0) by decide, show ¬((4 : Int) = 0) by decide, if_false]
              repeat' first | exact True.intro | exact .inl rfl | rfl | apply And.intro

          · rename_i h7
            have h7 : ¬ ((l.length : Nat) : Int) ≥ 4096 := by have h7 := of_decide_eq_false (thb h7); simp only [N.eq] at h7; exact h7
            have hE := go (fun h => h.elim h5 h6) (by omega)
            cbv
            have hz : IntKind.i64.wrap (z + Int.ofNat 1) = z + 1 := by show IntKind.i64.wrap (z + 1) = _; rw [IntKind.wrap_i64]; omega
            refine And.intro (thi (by omega)) ?_
            constructor <;> cbv
            all_goals
              try simp only [N.eq, lenK1, lenK3, putZ, putL, hE, hz, if_true]
              repeat' first | exact True.intro | exact .inl rfl | rfl | apply And.intro
    · cases hs
  · cases hs
def nextB (l : List Itm) (now : Int) : Bool := decide (l.length ≠ 0 ∧ (at' l 0).d ≤ now)
def nextX (l : List Itm) (now : Int) : Int := if nextB l now = true then (at' l 0).x else 0
def nextL (l : List Itm) (now : Int) : List Itm := if nextB l now = true then popQ l else l
def S11 (N : Hide) : Sp Kq := { ar := 2, nk := [none, none], f := fun _ => none, g := fun l hp => match l, hp with
  | [.c (.p i 0), .c (.v (.int .i64 now))], [(j, .box 54 [.row k, .v (.int .i64 z)]), (m, .row 58 (.items l))] => (match is0 i, is0 j, is1 k, is1 m with
    | true, true, true, true => some (N.th fun _ => l.length < 800000, .u [.c (.v (.int .i64 (N.th fun _ => nextX l now))), .c (.v (.bool (N.th fun _ => nextB l now)))],
        [(1000000, .box 54 [.row 1000001, .v (.int .i64 z)]), (1000001, .row 58 (.items (N.th fun _ => nextL l now)))])
    | _, _, _, _ => none)
  | _, _ => none }
theorem m11 (N : Hide) : Meets Try.prog (domq N).toDom 11 (S11 N) := by
  refine meetsM_of N [(19, S19 N), (25, S25 N)] [(34, 1000001), (1034, 1000001)] mixq (okq N) (reg_cons (m19 N) (reg_cons (m25 N) reg_nil)) r11 (fun _ => rfl) rfl rfl (fun k h => by simp [S11] at h) fun args hp pre r hp' hl hs hpre => ?_
  unfold S11 at hs
  dsimp only at hs
  split at hs
  · split at hs
    · rename_i h1 h2 h3 h4
      have h1 := is0_eq h1; have h2 := is0_eq h2; have h3 := is1_eq h3; have h4 := is1_eq h4
      subst h1; subst h2; subst h3; subst h4
      injection hs with hs; injection hs with e1 e2; injection e2 with e2 e3; subst e1; subst e2; subst e3
      rename_i now z l _ _ _ _
      refine ⟨rfl, ?_⟩
      have hq := thp' hpre
      have hno1 : l.length = 0 → nextB l now = false := fun h => decide_eq_false (fun h' => h'.1 h)
      have hno2 : (at' l 0).d > now → nextB l now = false := fun h => decide_eq_false (fun h' => by omega)
      have hgo : ¬ l.length = 0 → ¬ (at' l 0).d > now → nextB l now = true := fun h h' => decide_eq_true ⟨h, by omega⟩
      cbv
      refine And.intro (thi (by omega)) ?_
      split
      · rename_i h5
        have h5 : l.length = 0 := by
          have h5 := not_t h5
          have h5 := of_decide_eq_false (thb h5)
          omega
        have hE := hno1 h5
        cbv
        repeat' refine And.intro (thi ?_) ?_
        constructor <;> cbv
        all_goals
          try simp only [N.eq, lenK1, lenK3, nextX, nextL, hE, if_true, Bool.false_eq_true, if_false]
          repeat' first | exact True.intro | exact .inl rfl | rfl | apply And.intro

      · rename_i h5
        have h5 : ¬ l.length = 0 := by
          have h5 := not_f h5
          have h5 := of_decide_eq_true (thb h5)
          exact h5
        cbv
        split
        · rename_i h6
          have h6 := of_decide_eq_true (thb h6)
          simp only [N.eq, if_neg h5] at h6
          have hE := hno2 h6
          cbv
          repeat' refine And.intro (thi ?_) ?_
          constructor <;> cbv
          all_goals
            try simp only [N.eq, lenK1, lenK3, nextX, nextL, hE, if_true, Bool.false_eq_true, if_false]
            repeat' first | exact True.intro | exact .inl rfl | rfl | apply And.intro

        · rename_i h6
          have h6 := of_decide_eq_false (thb h6)
          simp only [N.eq, if_neg h5] at h6
          have hE := hgo h5 h6
          cbv
          repeat' refine And.intro (thi ?_) ?_
          · simp only [N.eq, lenK3]
            exact ⟨by decide, by show (0 : Int) < ((l.length : Nat) : Int); omega⟩
          · simp only [N.eq, lenK3]
            show 0 < l.length
            omega
          · exact ⟨by omega, by omega⟩
          · constructor <;> cbv
            all_goals
              try simp only [N.eq, lenK1, lenK3, nextX, nextL, hE, if_true]
              repeat' first | exact True.intro | exact .inl rfl | rfl | apply And.intro
    · cases hs
  · cases hs
def S9 (N : Hide) : Sp Kq := { ar := 0, nk := [], f := fun _ => none, g := fun l hp => match l, hp with
  | [], [] => some (N.th fun _ => True, .b (.c (.p 1000000 0)), [(1000000, .box 54 [.row 1000001, .v (.int .i64 0)]), (1000001, .row 58 (.items []))])
  | _, _ => none }
theorem m9 (N : Hide) : Meets Try.prog (domq N).toDom 9 (S9 N) := by
  refine meetsM_of N [] [(2, 1000000), (1, 1000001)] mixq (okq N) reg_nil r9 (fun _ => rfl) rfl rfl (fun k h => by simp [S9] at h) fun args hp pre r hp' hl hs hpre => ?_
  unfold S9 at hs
  dsimp only at hs
  split at hs
  · injection hs with hs; injection hs with e1 e2; injection e2 with e2 e3; subst e1; subst e2; subst e3
    refine ⟨rfl, ?_⟩
    cbv
    repeat' refine And.intro (thi ?_) ?_
    · trivial
    · constructor <;> cbv
      all_goals
        try simp only [N.eq, lenK1, lenK3]
        repeat' first | exact True.intro | exact .inl rfl | rfl | apply And.intro
  · cases hs
end Go.Sy
