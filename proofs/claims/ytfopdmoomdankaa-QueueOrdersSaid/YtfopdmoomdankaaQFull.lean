/- QueueFull: whatever the due, the law answers true. -/
import Derived.Test.YtfopdmoomdankaaPLaw
set_option linter.unusedVariables false
set_option linter.unusedSimpArgs false
namespace Go.Sy
open Go Go.Proofs Go.Q

theorem winc (i : Nat) (h : i < 1000000) : IntKind.i64.wrap ((i : Int) + Int.ofNat 1) = ((i + 1 : Nat) : Int) := wadd1 i (by omega)
def S5 (N : Hide) : Sp Kq := { ar := 1, nk := [none], f := fun l => match l with | [.c (.v (.int .i64 due))] => some (N.th fun _ => True, .b (.c (.v (.bool true)))) | _ => none }
theorem m5 (N : Hide) : Meets Try.prog (domq N).toDom 5 (S5 N) := by
  refine meets_of N [(8, Strue N), (9, S9 N), (10, S10 N), (11, S11 N), (12, S12 N)] mixq (okq N) (reg_cons (m8 N) (reg_cons (m9 N) (reg_cons (m10 N) (reg_cons (m11 N) (reg_cons (m12 N) reg_nil))))) r5 (fun _ _ => rfl) rfl rfl (fun k h => by simp [S5] at h) fun args pre r hl hs hp => ?_
  unfold S5 at hs
  dsimp only at hs
  split at hs
  · injection hs with hs; injection hs with e1 e2; subst e1; subst e2
    rename_i due
    cbv
    refine And.intro (thi trivial) ?_
    split
    · cbv
      repeat' refine And.intro (thi ?_) ?_
      all_goals trivial
    · rename_i h1
      have h1 : ¬ due < 0 := of_decide_eq_false (thb h1)
      cbv
      split
      · cbv
        repeat' refine And.intro (thi ?_) ?_
        all_goals trivial
      · rename_i h2
        have h2 : ¬ due > 1099511627776 := of_decide_eq_false (thb h2)
        have hf : fit due = true := decide_eq_true ⟨by omega, by omega⟩
        cbv
        refine And.intro (thi trivial) ?_
        refine ⟨List Itm × Nat, fun p => p.2 ≤ 4096 ∧ Holds' p.1 (sames due p.2),
          fun p => { sl := [(0, .b (.c (.v (.int .i64 due)))), (3, .b (.c (.p 1018 0))), (19, .b (.c (.v (.int .i64 (N.th fun _ => (p.2 : Int))))))], hp := [(1018, .box 54 [.row 2018, .v (.int .i64 (N.th fun _ => (p.2 : Int)))]), (2018, .row 58 (.items (N.th fun _ => p.1)))] },
          fun p => 4096 - p.2, ([], 0), ⟨Nat.zero_le _, holds_nil⟩, ?_, ?_⟩
        · constructor <;> cbv
          all_goals
            try simp only [N.eq, lenK1, lenK3]
            repeat' first | exact True.intro | exact .inl rfl | rfl | apply And.intro
        · rintro ⟨l, j⟩ ⟨hj, hh⟩
          simp only at hj hh
          have hlen : l.length = j := by rw [hh.len, sames_len]
          cbv
          split
          · rename_i h3
            have h3 : (j : Int) < 4096 := by have h3 := of_decide_eq_true (thb h3); simp only [N.eq] at h3; exact h3
            have hj' : j < 4096 := by omega
            obtain ⟨p1, p2, p3⟩ := full_put hh hj' hf
            cbv
            refine And.intro (thi ?_) ?_
            · simp only [N.eq]
              exact ⟨⟨by show (0 : Int) ≤ ((j : Nat) : Int); omega, by show ((j : Nat) : Int) < 1000000000000; omega⟩, by omega⟩
            · split
              · rename_i h4
                simp only [N.eq, p1] at h4
                exact absurd h4 (by decide)
              · cbv
                obtain ⟨l', hl'⟩ : ∃ l', l' = putL l j due j := ⟨_, rfl⟩
                obtain ⟨j', hj'⟩ : ∃ j', j' = j + 1 := ⟨_, rfl⟩
                have hw := winc j (by omega)
                rw [← hl', ← hj'] at p3
                rw [← hj'] at p2 hw
                refine ⟨(l', j'), ⟨by simp only; omega, p3⟩, by show 4096 - j' < 4096 - j; omega, ?_⟩
                constructor <;> cbv
                all_goals
                  try simp only [N.eq, lenK1, lenK3, hw, p2, ← hl']
                  repeat' first | exact True.intro | exact .inl rfl | rfl | apply And.intro
          · rename_i h3
            have h3 : ¬ (j : Int) < 4096 := by have h3 := of_decide_eq_false (thb h3); simp only [N.eq] at h3; exact h3
            have hj4 : j = 4096 := by omega
            obtain ⟨p1, p2, p3, p4, p5, p6, p7, p8⟩ := full_end (z := (j : Int)) hh hj4 hf
            have p3 : putL l (j : Int) due (Int.ofNat 1) = l := p3
            cbv
            refine And.intro (thi ?_) ?_
            · simp only [N.eq]
              exact ⟨⟨by show (0 : Int) ≤ ((j : Nat) : Int); omega, by show ((j : Nat) : Int) < 1000000000000; omega⟩, by omega⟩
            · split
              · rename_i h4
                simp only [N.eq, p1] at h4
                exact absurd h4 (by decide)
              · cbv
                refine And.intro (thi trivial) ?_
                split
                · rename_i h5
                  have h5 := thb h5
                  simp only [N.eq, p3, p2] at h5
                  exact absurd h5 (by decide)
                · cbv
                  repeat' refine And.intro (thi ?_) ?_
                  · simp only [N.eq, p3, p2]
                    decide
                  · split
                    · cbv
                      split
                      · cbv
                        repeat' refine And.intro (thi ?_) ?_
                        · simp only [N.eq, p3, p4]
                          exact ⟨⟨by show (0 : Int) ≤ ((j : Nat) : Int); omega, by show ((j : Nat) : Int) < 1000000000000; omega⟩, by rw [p8]; decide⟩
                        · simp only [N.eq, p3, p7]
                          repeat' first | exact True.intro | exact .inl rfl | rfl | apply And.intro
                      · rename_i h7
                        have h7 := thb h7
                        simp only [N.eq, p3, p6] at h7
                        exact absurd h7 (by decide)
                    · rename_i h6
                      have h6 := thb h6
                      simp only [N.eq, p3, p5] at h6
                      cases h6
  · cases hs
end Go.Sy
