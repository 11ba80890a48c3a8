/- heap.up, heap.down keep their contracts. -/
import Derived.Test.YtfopdmoomdankaaQLeaf
set_option linter.unusedVariables false
set_option linter.unusedSimpArgs false
namespace Go.Sy
open Go Go.Proofs Go.Q

theorem par_eq (j : Nat) (h : j < 1000000) : IntKind.i64.wrap ((IntKind.i64.wrap ((j : Int) - Int.ofNat 1)).tdiv (Int.ofNat 2)) = (((j - 1) / 2 : Nat) : Int) := by
  cases j with
  | zero => decide
  | succ j =>
    have e1 : IntKind.i64.wrap (((j + 1 : Nat) : Int) - Int.ofNat 1) = (j : Int) := by show IntKind.i64.wrap (((j + 1 : Nat) : Int) - 1) = _; rw [IntKind.wrap_i64]; omega
    have e2 : (j : Int).tdiv (Int.ofNat 2) = (j : Int) / 2 := Int.tdiv_eq_ediv_of_nonneg (by omega)
    rw [e1, e2, IntKind.wrap_i64]
    simp only [Nat.add_sub_cancel]
    omega
theorem inR_of {l : List Itm} {j : Nat} (h : j < l.length) : inR l (j : Int) := by unfold inR; omega

theorem up_step {a : List Itm} {j : Nat} (h : j ≠ 0) (h' : lt (at' a j) (at' a ((j - 1) / 2)) = true) : upH (j + 1) a j = upH ((j - 1) / 2 + 1) (swp a ((j - 1) / 2) j) ((j - 1) / 2) := by
  rw [upH, if_neg h, if_pos h']
  exact upH_fuel _ _ _ _ (by omega) (by omega)
theorem down_step {a : List Itm} {i n f : Nat} (h : 2 * i + 1 < n) (hf : n ≤ i + f) (h' : lt (at' a (kid a i n)) (at' a i) = true) :
    downH f a i n = downH f (swp a i (kid a i n)) (kid a i n) n := by
  obtain ⟨f, rfl⟩ : ∃ g, f = g + 1 := ⟨f - 1, by omega⟩
  rw [downH, if_pos h, if_pos h']
  have := kid_cases a i n h
  exact downH_fuel _ _ _ _ _ (by omega) (by omega)
theorem down_stop1 {a : List Itm} {i n f : Nat} (h : ¬ 2 * i + 1 < n) : downH f a i n = a := by
  cases f with
  | zero => rfl
  | succ f => rw [downH, if_neg h]
theorem down_stop2 {a : List Itm} {i n f : Nat} (h' : lt (at' a (kid a i n)) (at' a i) = false) : downH f a i n = a := by
  cases f with
  | zero => rfl
  | succ f => rw [downH]; split
              · rw [if_neg (by rw [h']; decide)]
              · rfl
theorem downI_step {a : List Itm} {i n f : Nat} (h : 2 * i + 1 < n) (hf : n ≤ i + f) (h' : lt (at' a (kid a i n)) (at' a i) = true) :
    downI f a i n = downI f (swp a i (kid a i n)) (kid a i n) n := by
  obtain ⟨f, rfl⟩ : ∃ g, f = g + 1 := ⟨f - 1, by omega⟩
  rw [downI, if_pos h, if_pos h']
  have := kid_cases a i n h
  exact downI_fuel _ _ _ _ _ (by omega) (by omega)
theorem downI_stop1 {a : List Itm} {i n f : Nat} (h : ¬ 2 * i + 1 < n) : downI f a i n = i := by
  cases f with
  | zero => rfl
  | succ f => rw [downI, if_neg h]
theorem downI_stop2 {a : List Itm} {i n f : Nat} (h' : lt (at' a (kid a i n)) (at' a i) = false) : downI f a i n = i := by
  cases f with
  | zero => rfl
  | succ f => rw [downI]; split
              · rw [if_neg (by rw [h']; decide)]
              · rfl
theorem not_t {b : Bool} (h : (match b with | true => false | false => true) = true) : b = false := by cases b <;> simp_all
theorem not_f {b : Bool} (h : (match b with | true => false | false => true) = false) : b = true := by cases b <;> simp_all
def S36 (N : Hide) : Sp Kq := { ar := 2, nk := [none, none], f := fun _ => none, still := true, g := fun l hp => match l, hp with
  | [.c (.ifp 56 i 0), .c (.v (.int .i64 n))], [(j, .box 54 [.row k, .v (.int .i64 z)]), (m, .row 58 (.items l))] => (match is0 i, is0 j, is1 k, is1 m with
    | true, true, true, true => some (N.th fun _ => 0 ≤ n ∧ n < (l.length : Int) ∧ l.length < 1000000, .u [],
        [(1000000, .box 54 [.row 1000001, .v (.int .i64 z)]), (1000001, .row 58 (.items (N.th fun _ => upH (n.toNat + 1) l n.toNat)))])
    | _, _, _, _ => none)
  | _, _ => none }
theorem m36 (N : Hide) : Meets Try.prog (domq N).toDom 36 (S36 N) := by
  refine meetsM_of N [(80, S80 N), (81, S81 N)] [] mixq (okq N) (reg_cons (m80 N) (reg_cons (m81 N) reg_nil)) r36 (fun _ => rfl) rfl rfl (fun k h => by simp [S36] at h) fun args hp pre r hp' hl hs hpre => ?_
  unfold S36 at hs
  dsimp only at hs
  split at hs
  · split at hs
    · rename_i h1 h2 h3 h4
      have h1 := is0_eq h1; have h2 := is0_eq h2; have h3 := is1_eq h3; have h4 := is1_eq h4
      subst h1; subst h2; subst h3; subst h4
      injection hs with hs; injection hs with e1 e2; injection e2 with e2 e3; subst e1; subst e2; subst e3
      rename_i n z l _ _ _ _
      refine ⟨rfl, ?_⟩
      obtain ⟨q1, q2, q3⟩ := thp' hpre
      obtain ⟨n, rfl⟩ : ∃ m : Nat, n = (m : Int) := ⟨n.toNat, by omega⟩
      have hn0 : n < l.length := by omega
      simp only [Int.toNat_natCast]
      cbv
      refine ⟨List Itm × Nat, fun p => p.2 < p.1.length ∧ p.1.length = l.length ∧ upH (p.2 + 1) p.1 p.2 = upH (n + 1) l n,
        fun p => { sl := [(0, .b (.c (.ifp 56 1000000 0))), (1, .b (.c (.v (.int .i64 (N.th fun _ => (p.2 : Int))))))], hp := [(1000000, .box 54 [.row 1000001, .v (.int .i64 z)]), (1000001, .row 58 (.items (N.th fun _ => p.1)))] },
        fun p => p.2, (l, n), ⟨hn0, rfl, rfl⟩, ?_, ?_⟩
      · constructor <;> cbv
        all_goals
          try simp only [N.eq, lenK1, lenK2, lenK3]
          repeat' first | exact True.intro | exact .inl rfl | rfl | apply And.intro
      · rintro ⟨a, j⟩ ⟨hp1, hp2, hp3⟩
        simp only at hp1 hp2 hp3
        cbv
        have hlen : j < 1000000 := by omega
        have hpar := par_eq j hlen
        refine ⟨thi (by decide), ?_⟩
        split
        · rename_i h5
          simp only [N.eq, hpar] at h5
          have h5 : (((j - 1) / 2 : Nat) : Int) = ((j : Nat) : Int) := eq_of_beq h5
          have h6 : j = 0 := by omega
          have h8 : upH (j + 1) a j = a := by rw [h6]; simp [upH]
          have h7 : a = upH (n + 1) l n := h8.symm.trans hp3
          cbv
          constructor <;> cbv
          simp only [N.eq, ← h7]
          repeat' first | exact True.intro | exact .inl rfl | rfl | apply And.intro
        · rename_i h5
          simp only [N.eq, hpar] at h5
          have h5 : (((j - 1) / 2 : Nat) : Int) ≠ ((j : Nat) : Int) := ne_of_beq_false h5
          have h5' : j ≠ 0 := by omega
          cbv
          have hpar := par_eq j hlen
          have r1 : inR a ((j : Nat) : Int) := inR_of hp1
          have r2 : inR a (((j - 1) / 2 : Nat) : Int) := inR_of (by omega)
          refine ⟨thi ?_, ?_⟩
          · simp only [N.eq, hpar]
            exact ⟨r1, r2⟩
          · split
            · rename_i h9
              simp only [N.eq, hpar, Int.toNat_natCast] at h9
              have h9' := not_t h9
              cbv
              constructor <;> cbv
              simp only [N.eq]
              have h8 : a = upH (n + 1) l n := by rw [← hp3]; simp [upH, h5', h9']
              exact ⟨.inl (by rw [h8]), trivial⟩
            · rename_i h9
              simp only [N.eq, hpar, Int.toNat_natCast] at h9
              cbv
              refine ⟨thi ?_, ?_⟩
              · simp only [N.eq, hpar]
                exact ⟨r2, r1⟩
              · have h9' := not_f h9
                have e1 := up_step h5' h9'
                have hpar := par_eq j hlen
                obtain ⟨a', ha⟩ : ∃ a', a' = swp a ((j - 1) / 2) j := ⟨_, rfl⟩
                obtain ⟨j', hj⟩ : ∃ j', j' = (j - 1) / 2 := ⟨_, rfl⟩
                rw [← hj] at hpar ha e1
                rw [← ha] at e1
                refine ⟨(a', j'), ⟨by simp only [ha, swp_len]; omega, by simp only [ha, swp_len]; exact hp2, e1.symm.trans hp3⟩, by show j' < j; omega, ?_⟩
                constructor <;> cbv
                all_goals
                  simp only [N.eq, hpar, Int.toNat_natCast, ← ha]
                  repeat' first | exact True.intro | exact .inl rfl | rfl | apply And.intro
    · cases hs
  · cases hs


theorem w2i1 (i : Nat) (h : i < 1000000) : IntKind.i64.wrap (IntKind.i64.wrap (Int.ofNat 2 * (i : Int)) + Int.ofNat 1) = ((2 * i + 1 : Nat) : Int) := by
  have e1 : IntKind.i64.wrap (Int.ofNat 2 * (i : Int)) = ((2 * i : Nat) : Int) := by show IntKind.i64.wrap (2 * (i : Int)) = _; rw [IntKind.wrap_i64]; omega
  rw [e1]
  show IntKind.i64.wrap (((2 * i : Nat) : Int) + 1) = _
  rw [IntKind.wrap_i64]; omega
theorem wadd1 (i : Nat) (h : i < 4000000) : IntKind.i64.wrap ((i : Int) + Int.ofNat 1) = ((i + 1 : Nat) : Int) := by
  show IntKind.i64.wrap ((i : Int) + 1) = _
  rw [IntKind.wrap_i64]; omega
theorem gt_dec (i0 j : Nat) : decide ((j : Int) > (i0 : Int)) = decide (i0 < j) := decide_eq_decide.2 (by omega)
def S37 (N : Hide) : Sp Kq := { ar := 3, nk := [none, none, none], f := fun _ => none, still := true, g := fun l hp => match l, hp with
  | [.c (.ifp 56 i 0), .c (.v (.int .i64 a)), .c (.v (.int .i64 b))], [(j, .box 54 [.row k, .v (.int .i64 z)]), (m, .row 58 (.items l))] => (match is0 i, is0 j, is1 k, is1 m with
    | true, true, true, true => some (N.th fun _ => 0 ≤ a ∧ a < (l.length : Int) ∧ 0 ≤ b ∧ b ≤ (l.length : Int) ∧ l.length < 1000000, .b (.c (.v (.bool (N.th fun _ => decide (a.toNat < downI l.length l a.toNat b.toNat))))),
        [(1000000, .box 54 [.row 1000001, .v (.int .i64 z)]), (1000001, .row 58 (.items (N.th fun _ => downH l.length l a.toNat b.toNat)))])
    | _, _, _, _ => none)
  | _, _ => none }
theorem m37 (N : Hide) : Meets Try.prog (domq N).toDom 37 (S37 N) := by
  refine meetsM_of N [(80, S80 N), (81, S81 N)] [] mixq (okq N) (reg_cons (m80 N) (reg_cons (m81 N) reg_nil)) r37 (fun _ => rfl) rfl rfl (fun k h => by simp [S37] at h) fun args hp pre r hp' hl hs hpre => ?_
  unfold S37 at hs
  dsimp only at hs
  split at hs
  · split at hs
    · rename_i h1 h2 h3 h4
      have h1 := is0_eq h1; have h2 := is0_eq h2; have h3 := is1_eq h3; have h4 := is1_eq h4
      subst h1; subst h2; subst h3; subst h4
      injection hs with hs; injection hs with e1 e2; injection e2 with e2 e3; subst e1; subst e2; subst e3
      rename_i i0 n z l _ _ _ _
      refine ⟨rfl, ?_⟩
      obtain ⟨q1, q2, q3, q4, q5⟩ := thp' hpre
      obtain ⟨i0, rfl⟩ : ∃ m : Nat, i0 = (m : Int) := ⟨i0.toNat, by omega⟩
      obtain ⟨n, rfl⟩ : ∃ m : Nat, n = (m : Int) := ⟨n.toNat, by omega⟩
      have q2' : i0 < l.length := by omega
      have q4' : n ≤ l.length := by omega
      simp only [Int.toNat_natCast]
      cbv
      refine ⟨List Itm × Nat, fun p => p.2 < p.1.length ∧ p.1.length = l.length ∧ downH l.length p.1 p.2 n = downH l.length l i0 n ∧ downI l.length p.1 p.2 n = downI l.length l i0 n,
        fun p => { sl := [(0, .b (.c (.ifp 56 1000000 0))), (1, .b (.c (.v (.int .i64 (N.th fun _ => (i0 : Int)))))), (2, .b (.c (.v (.int .i64 (N.th fun _ => (n : Int)))))), (7, .b (.c (.v (.int .i64 (N.th fun _ => (p.2 : Int))))))], hp := [(1000000, .box 54 [.row 1000001, .v (.int .i64 z)]), (1000001, .row 58 (.items (N.th fun _ => p.1)))] },
        fun p => n - p.2, (l, i0), ⟨q2', rfl, rfl, rfl⟩, ?_, ?_⟩
      · constructor <;> cbv
        all_goals
          try simp only [N.eq, lenK1, lenK2, lenK3]
          repeat' first | exact True.intro | exact .inl rfl | rfl | apply And.intro
      · rintro ⟨a, i⟩ ⟨hp1, hp2, hp3, hp4⟩
        simp only at hp1 hp2 hp3 hp4
        cbv
        have hlen : i < 1000000 := by omega
        have hc1 := w2i1 i hlen
        have hc2 := wadd1 (2 * i + 1) (by omega)
        split
        · rename_i hA
          simp only [N.eq, hc1] at hA
          have hA : ((n : Nat) : Int) ≤ ((2 * i + 1 : Nat) : Int) := of_decide_eq_true hA
          have hA' : ¬ 2 * i + 1 < n := by omega
          have f1 := down_stop1 (a := a) (f := l.length) hA'
          have f2 := downI_stop1 (a := a) (f := l.length) hA'
          rw [hp3] at f1
          rw [hp4] at f2
          cbv
          constructor <;> cbv
          all_goals
            simp only [N.eq, Int.toNat_natCast, f1, f2]
            repeat' first | exact True.intro | exact .inl rfl | rfl | apply And.intro
          · exact congrArg (fun b => C.v (Value.bool b)) (gt_dec _ _)

        · rename_i hA
          simp only [N.eq, hc1] at hA
          have hA : ¬ ((n : Nat) : Int) ≤ ((2 * i + 1 : Nat) : Int) := of_decide_eq_false hA
          have hA' : 2 * i + 1 < n := by omega
          cbv
          have hc1 := w2i1 i hlen
          split
          · rename_i hB
            simp only [N.eq, hc1] at hB
            have hB : ((2 * i + 1 : Nat) : Int) < 0 := of_decide_eq_true hB
            omega
          · cbv
            have hc1 := w2i1 i hlen
            have hc2 := wadd1 (2 * i + 1) (by omega)
            split
            · rename_i hC
              simp only [N.eq, hc1, hc2] at hC
              have hC : ((2 * i + 1 + 1 : Nat) : Int) < ((n : Nat) : Int) := of_decide_eq_true hC
              have hC' : 2 * i + 2 < n := by omega
              cbv
              have hc1 := w2i1 i hlen
              have hc2 := wadd1 (2 * i + 1) (by omega)
              refine ⟨thi ?_, ?_⟩
              · simp only [N.eq, hc1, hc2]
                exact ⟨inR_of (by omega), inR_of (by omega)⟩
              · split
                · rename_i hD
                  simp only [N.eq, hc1, hc2, Int.toNat_natCast] at hD
                  cbv
                  have hc1 := w2i1 i hlen
                  have hc2 := wadd1 (2 * i + 1) (by omega)
                  have hkid : kid a i n = 2 * i + 1 + 1 := by rw [kid, if_pos ⟨hC', hD⟩]
                  have hkn := kid_cases a i n hA'
                  rw [hkid] at hkn
                  have r1 : inR a ((i : Nat) : Int) := inR_of hp1
                  have r2 : inR a ((2 * i + 1 + 1 : Nat) : Int) := inR_of (by omega)
                  refine ⟨thi ?_, ?_⟩
                  · simp only [N.eq, hc1, hc2]
                    exact ⟨r2, r1⟩
                  · split
                    · rename_i h9
                      simp only [N.eq, hc1, hc2, Int.toNat_natCast] at h9
                      have h9 := not_t h9
                      rw [← hkid] at h9
                      have f1 := down_stop2 (f := l.length) h9
                      have f2 := downI_stop2 (f := l.length) h9
                      rw [hp3] at f1
                      rw [hp4] at f2
                      cbv
                      constructor <;> cbv
                      all_goals
                        simp only [N.eq, Int.toNat_natCast, f1, f2]
                        repeat' first | exact True.intro | exact .inl rfl | rfl | apply And.intro
                      · exact congrArg (fun b => C.v (Value.bool b)) (gt_dec _ _)

                    · rename_i h9
                      simp only [N.eq, hc1, hc2, Int.toNat_natCast] at h9
                      have h9 := not_f h9
                      rw [← hkid] at h9
                      have e1 := down_step (f := l.length) hA' (by omega) h9
                      have e2 := downI_step (f := l.length) hA' (by omega) h9
                      rw [hkid] at e1 e2
                      rw [hp3] at e1
                      rw [hp4] at e2
                      cbv
                      have hc1 := w2i1 i hlen
                      have hc2 := wadd1 (2 * i + 1) (by omega)
                      refine ⟨thi ?_, ?_⟩
                      · simp only [N.eq, hc1, hc2]
                        exact ⟨r1, r2⟩
                      · obtain ⟨a', ha⟩ : ∃ a', a' = swp a i (2 * i + 1 + 1) := ⟨_, rfl⟩
                        obtain ⟨j', hj⟩ : ∃ j', j' = 2 * i + 1 + 1 := ⟨_, rfl⟩
                        rw [← ha, ← hj] at e1 e2
                        refine ⟨(a', j'), ⟨by simp only [ha, swp_len]; omega, by simp only [ha, swp_len]; exact hp2, e1.symm, e2.symm⟩, by show n - j' < n - i; omega, ?_⟩
                        constructor <;> cbv
                        all_goals
                          simp only [N.eq, hc1, hc2, Int.toNat_natCast, ← ha]
                          try rw [← hj]
                          repeat' first | exact True.intro | exact .inl rfl | rfl | apply And.intro

                · rename_i hD
                  simp only [N.eq, hc1, hc2, Int.toNat_natCast] at hD
                  have hD' : ¬ (2 * i + 2 < n ∧ lt (at' a (2 * i + 2)) (at' a (2 * i + 1)) = true) := fun h => by rw [h.2] at hD; cases hD
                  cbv
                  have hc1 := w2i1 i hlen
                  have hc2 := wadd1 (2 * i + 1) (by omega)
                  have hkid : kid a i n = 2 * i + 1 := by rw [kid, if_neg hD']
                  have hkn := kid_cases a i n hA'
                  rw [hkid] at hkn
                  have r1 : inR a ((i : Nat) : Int) := inR_of hp1
                  have r2 : inR a ((2 * i + 1 : Nat) : Int) := inR_of (by omega)
                  refine ⟨thi ?_, ?_⟩
                  · simp only [N.eq, hc1, hc2]
                    exact ⟨r2, r1⟩
                  · split
                    · rename_i h9
                      simp only [N.eq, hc1, hc2, Int.toNat_natCast] at h9
                      have h9 := not_t h9
                      rw [← hkid] at h9
                      have f1 := down_stop2 (f := l.length) h9
                      have f2 := downI_stop2 (f := l.length) h9
                      rw [hp3] at f1
                      rw [hp4] at f2
                      cbv
                      constructor <;> cbv
                      all_goals
                        simp only [N.eq, Int.toNat_natCast, f1, f2]
                        repeat' first | exact True.intro | exact .inl rfl | rfl | apply And.intro
                      · exact congrArg (fun b => C.v (Value.bool b)) (gt_dec _ _)

                    · rename_i h9
                      simp only [N.eq, hc1, hc2, Int.toNat_natCast] at h9
                      have h9 := not_f h9
                      rw [← hkid] at h9
                      have e1 := down_step (f := l.length) hA' (by omega) h9
                      have e2 := downI_step (f := l.length) hA' (by omega) h9
                      rw [hkid] at e1 e2
                      rw [hp3] at e1
                      rw [hp4] at e2
                      cbv
                      have hc1 := w2i1 i hlen
                      have hc2 := wadd1 (2 * i + 1) (by omega)
                      refine ⟨thi ?_, ?_⟩
                      · simp only [N.eq, hc1, hc2]
                        exact ⟨r1, r2⟩
                      · obtain ⟨a', ha⟩ : ∃ a', a' = swp a i (2 * i + 1) := ⟨_, rfl⟩
                        obtain ⟨j', hj⟩ : ∃ j', j' = 2 * i + 1 := ⟨_, rfl⟩
                        rw [← ha, ← hj] at e1 e2
                        refine ⟨(a', j'), ⟨by simp only [ha, swp_len]; omega, by simp only [ha, swp_len]; exact hp2, e1.symm, e2.symm⟩, by show n - j' < n - i; omega, ?_⟩
                        constructor <;> cbv
                        all_goals
                          simp only [N.eq, hc1, hc2, Int.toNat_natCast, ← ha]
                          try rw [← hj]
                          repeat' first | exact True.intro | exact .inl rfl | rfl | apply And.intro

            · rename_i hC
              simp only [N.eq, hc1, hc2] at hC
              have hC : ¬ ((2 * i + 1 + 1 : Nat) : Int) < ((n : Nat) : Int) := of_decide_eq_false hC
              have hC' : ¬ 2 * i + 2 < n := by omega
              cbv
              have hc1 := w2i1 i hlen
              have hc2 := wadd1 (2 * i + 1) (by omega)
              have hkid : kid a i n = 2 * i + 1 := by rw [kid, if_neg (fun h => hC' h.1)]
              have hkn := kid_cases a i n hA'
              rw [hkid] at hkn
              have r1 : inR a ((i : Nat) : Int) := inR_of hp1
              have r2 : inR a ((2 * i + 1 : Nat) : Int) := inR_of (by omega)
              refine ⟨thi ?_, ?_⟩
              · simp only [N.eq, hc1, hc2]
                exact ⟨r2, r1⟩
              · split
                · rename_i h9
                  simp only [N.eq, hc1, hc2, Int.toNat_natCast] at h9
                  have h9 := not_t h9
                  rw [← hkid] at h9
                  have f1 := down_stop2 (f := l.length) h9
                  have f2 := downI_stop2 (f := l.length) h9
                  rw [hp3] at f1
                  rw [hp4] at f2
                  cbv
                  constructor <;> cbv
                  all_goals
                    simp only [N.eq, Int.toNat_natCast, f1, f2]
                    repeat' first | exact True.intro | exact .inl rfl | rfl | apply And.intro
                  · exact congrArg (fun b => C.v (Value.bool b)) (gt_dec _ _)

                · rename_i h9
                  simp only [N.eq, hc1, hc2, Int.toNat_natCast] at h9
                  have h9 := not_f h9
                  rw [← hkid] at h9
                  have e1 := down_step (f := l.length) hA' (by omega) h9
                  have e2 := downI_step (f := l.length) hA' (by omega) h9
                  rw [hkid] at e1 e2
                  rw [hp3] at e1
                  rw [hp4] at e2
                  cbv
                  have hc1 := w2i1 i hlen
                  have hc2 := wadd1 (2 * i + 1) (by omega)
                  refine ⟨thi ?_, ?_⟩
                  · simp only [N.eq, hc1, hc2]
                    exact ⟨r1, r2⟩
                  · obtain ⟨a', ha⟩ : ∃ a', a' = swp a i (2 * i + 1) := ⟨_, rfl⟩
                    obtain ⟨j', hj⟩ : ∃ j', j' = 2 * i + 1 := ⟨_, rfl⟩
                    rw [← ha, ← hj] at e1 e2
                    refine ⟨(a', j'), ⟨by simp only [ha, swp_len]; omega, by simp only [ha, swp_len]; exact hp2, e1.symm, e2.symm⟩, by show n - j' < n - i; omega, ?_⟩
                    constructor <;> cbv
                    all_goals
                      simp only [N.eq, hc1, hc2, Int.toNat_natCast, ← ha]
                      try rw [← hj]
                      repeat' first | exact True.intro | exact .inl rfl | rfl | apply And.intro

    · cases hs
  · cases hs
end Go.Sy
