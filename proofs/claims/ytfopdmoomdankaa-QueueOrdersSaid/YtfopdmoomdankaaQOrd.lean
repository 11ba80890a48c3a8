/- QueueOrders, QueueWaits: whatever the dues, the laws answer true. -/
import Derived.Test.YtfopdmoomdankaaPLaw
import Derived.Test.YtfopdmoomdankaaQFull
set_option linter.unusedVariables false
set_option linter.unusedSimpArgs false
namespace Go.Sy
open Go Go.Proofs Go.Q

def S3 (N : Hide) : Sp Kq := { ar := 1, nk := [none], f := fun l => match l with | [.c (.im (.ints dues))] => some (N.th fun _ => True, .b (.c (.v (.bool true)))) | _ => none }
theorem m3 (N : Hide) : Meets Try.prog (domq N).toDom 3 (S3 N) := by
  refine meets_of N [(8, Strue N), (9, S9 N), (10, S10 N), (11, S11 N), (12, S12 N)] mixq (okq N) (reg_cons (m8 N) (reg_cons (m9 N) (reg_cons (m10 N) (reg_cons (m11 N) (reg_cons (m12 N) reg_nil))))) r3 (fun _ _ => rfl) rfl rfl (fun k h => by simp [S3] at h) fun args pre r hl hs hp => ?_
  unfold S3 at hs
  dsimp only at hs
  split at hs
  · injection hs with hs; injection hs with e1 e2; subst e1; subst e2
    rename_i dues
    cbv
    refine And.intro (thi trivial) ?_
    split
    · cbv
      repeat' refine And.intro (thi ?_) ?_
      all_goals trivial
    · rename_i h1
      have h1 := of_decide_eq_false (thb h1)
      simp only [N.eq, lenK1] at h1
      have h1 : ¬ ((300 : Int) < (dues.length : Int)) := h1
      have hn : dues.length ≤ 300 := by omega
      cbv
      refine And.intro (thi trivial) ?_
      refine ⟨List Itm × Nat, fun p => p.2 ≤ dues.length ∧ Holds' p.1 (acc dues p.2),
        fun p => { sl := [(0, .b (.c (.im (.ints dues)))), (3, .b (.c (.p 1021 0))), (4, .b (.c (.v (.int .i64 (N.th fun _ => ((acc dues p.2).length : Int)))))), (22, .b (.c (.im (.ints dues)))), (23, .b (.c (.v (.int .i64 (N.th fun _ => (dues.length : Int)))))), (24, .b (.c (.v (.int .i64 (N.th fun _ => (p.2 : Int))))))],
                   hp := [(1021, .box 54 [.row 2021, .v (.int .i64 (N.th fun _ => ((acc dues p.2).length : Int)))]), (2021, .row 58 (.items (N.th fun _ => p.1)))] },
        fun p => dues.length - p.2, ([], 0), ⟨Nat.zero_le _, holds_nil⟩, ?_, ?_⟩
      · constructor <;> cbv
        all_goals
          try simp only [N.eq, lenK1, lenK3]
          repeat' first | exact True.intro | exact .inl rfl | rfl | apply And.intro
      · rintro ⟨l, j⟩ ⟨hj, hh⟩
        simp only at hj hh
        have hal := acc_len dues j
        have hlen : l.length = (acc dues j).length := hh.len
        cbv
        split
        · rename_i h3
          have h3 : (j : Int) < (dues.length : Int) := by have h3 := of_decide_eq_true (thb h3); simp only [N.eq] at h3; exact h3
          have hj' : j < dues.length := by omega
          obtain ⟨p1, p2, p3⟩ := put_acc hh (by omega)
          cbv
          repeat' refine And.intro (thi ?_) ?_
          · simp only [N.eq, lenK1]
            exact ⟨by show (0 : Int) ≤ ((j : Nat) : Int); omega, h3⟩
          · simp only [N.eq]
            exact ⟨⟨by show (0 : Int) ≤ (((acc dues j).length : Nat) : Int); omega, by show (((acc dues j).length : Nat) : Int) < 1000000000000; omega⟩, by omega⟩
          · split
            · rename_i h4
              have h4 := thb h4
              have h4 := eq_of_beq h4
              simp only [N.eq, Int.toNat_natCast] at h4
              have h4' : fit (iat dues j) = true := p3.1 h4
              cbv
              obtain ⟨l', hl'⟩ : ∃ l', l' = putL l (acc dues j).length (iat dues j) j := ⟨_, rfl⟩
              obtain ⟨j', hj1⟩ : ∃ j', j' = j + 1 := ⟨_, rfl⟩
              rw [← hl', ← hj1] at p1
              rw [← hj1] at p2
              have hw := winc j (by omega)
              have hw2 := winc (acc dues j).length (by omega)
              have hc : (acc dues j').length = (acc dues j).length + 1 := by rw [hj1, acc, h4']; simp
              rw [← hj1] at hw
              refine ⟨(l', j'), ⟨by simp only; omega, p1⟩, by show dues.length - j' < dues.length - j; omega, ?_⟩
              constructor <;> cbv
              all_goals
                try simp only [N.eq, lenK1, lenK3, hw, hw2, p2, ← hl', Int.toNat_natCast, hc]
                repeat' first | exact True.intro | exact .inl rfl | rfl | apply And.intro

            · rename_i h4
              have h4 := thb h4
              have h4 := ne_of_beq_false h4
              simp only [N.eq, Int.toNat_natCast] at h4
              have h4' : fit (iat dues j) = false := by
                cases hf : fit (iat dues j) with
                | false => rfl
                | true => exact absurd (p3.2 hf) h4
              cbv
              obtain ⟨l', hl'⟩ : ∃ l', l' = putL l (acc dues j).length (iat dues j) j := ⟨_, rfl⟩
              obtain ⟨j', hj1⟩ : ∃ j', j' = j + 1 := ⟨_, rfl⟩
              rw [← hl', ← hj1] at p1
              rw [← hj1] at p2
              have hw := winc j (by omega)
              have hw2 := winc (acc dues j).length (by omega)
              have hc : (acc dues j').length = (acc dues j).length := by rw [hj1, acc, h4']; simp
              rw [← hj1] at hw
              refine ⟨(l', j'), ⟨by simp only; omega, p1⟩, by show dues.length - j' < dues.length - j; omega, ?_⟩
              constructor <;> cbv
              all_goals
                try simp only [N.eq, lenK1, lenK3, hw, hw2, p2, ← hl', Int.toNat_natCast, hc]
                repeat' first | exact True.intro | exact .inl rfl | rfl | apply And.intro

        · rename_i h3
          have h3 : ¬ (j : Int) < (dues.length : Int) := by have h3 := of_decide_eq_false (thb h3); simp only [N.eq] at h3; exact h3
          have hjl : j = dues.length := by omega
          subst hjl
          have ho := ord_start hh
          generalize hn' : (acc dues dues.length).length = n at *
          cbv
          refine ⟨List Itm × Nat × Int × Int, fun p => p.2.1 ≤ n ∧ Ord dues p.1 n p.2.1 p.2.2.1 p.2.2.2,
            fun p => { sl := [(0, .b (.c (.im (.ints dues)))), (3, .b (.c (.p 1021 0))), (7, .b (.c (.v (.int .i64 (N.th fun _ => p.2.2.1))))), (8, .b (.c (.v (.int .i64 (N.th fun _ => p.2.2.2))))), (37, .b (.c (.v (.int .i64 (N.th fun _ => (n : Int)))))), (38, .b (.c (.v (.int .i64 (N.th fun _ => (p.2.1 : Int))))))],
                       hp := [(1021, .box 54 [.row 2021, .v (.int .i64 (N.th fun _ => (n : Int)))]), (2021, .row 58 (.items (N.th fun _ => p.1)))] },
            fun p => n - p.2.1, (l, 0, -1, -1), ⟨Nat.zero_le _, ho⟩, ?_, ?_⟩
          · constructor <;> cbv
            all_goals
              try simp only [N.eq, lenK1, lenK3]
              repeat' first | exact True.intro | exact .inl rfl | rfl | apply And.intro
          · clear ho hh hlen
            rintro ⟨l, k, last, at_⟩ ⟨hk, ho⟩
            simp only at hk ho
            have hlen := ho.len
            cbv
            split
            · rename_i h4
              have h4 : (k : Int) < (n : Int) := by have h4 := of_decide_eq_true (thb h4); simp only [N.eq] at h4; exact h4
              have hkn : k < n := by omega
              obtain ⟨g1, g2, g3, g4, g5, g6⟩ := ord_next ho hkn (now := Int.ofNat 1099511627776) rfl
              cbv
              refine And.intro (thi (by simp only [N.eq]; omega)) ?_
              split
              · rename_i h5
                have h5 := thb (not_t h5)
                simp only [N.eq, g1] at h5
                cases h5
              · cbv
                repeat' refine And.intro (thi ?_) ?_
                · simp only [N.eq, lenK1]
                  exact ⟨g2, g3⟩
                · split
                  · rename_i h6
                    have h6 := thb h6
                    have h6 := of_decide_eq_true h6
                    simp only [N.eq] at h6
                    exact absurd h6 g4
                  · cbv
                    repeat' refine And.intro (thi ?_) ?_
                    · simp only [N.eq, lenK1]
                      exact ⟨g2, g3⟩
                    · split
                      · cbv
                        split
                        · rename_i h7 b h8
                          have h7 := thb h7
                          have h7 := eq_of_beq h7
                          have h8 := thb h8
                          have h8 := of_decide_eq_true h8
                          simp only [N.eq] at h7 h8
                          exact absurd ⟨h7, h8⟩ g5
                        · cbv
                          repeat' refine And.intro (thi ?_) ?_
                          · simp only [N.eq, lenK1]
                            exact ⟨g2, g3⟩
                          · obtain ⟨l', hl'⟩ : ∃ l', l' = nextL l (Int.ofNat 1099511627776) := ⟨_, rfl⟩
                            obtain ⟨k', hk'⟩ : ∃ k', k' = k + 1 := ⟨_, rfl⟩
                            obtain ⟨a', ha'⟩ : ∃ a', a' = nextX l (Int.ofNat 1099511627776) := ⟨_, rfl⟩
                            obtain ⟨d', hd'⟩ : ∃ d', d' = iat dues a'.toNat := ⟨_, rfl⟩
                            have hw := winc k (by omega)
                            rw [← hk'] at hw
                            rw [← hl', ← ha', ← hk', ← hd'] at g6
                            refine ⟨(l', k', d', a'), ⟨by simp only; omega, g6⟩, by show n - k' < n - k; omega, ?_⟩
                            constructor <;> cbv
                            all_goals
                              try simp only [N.eq, lenK1, lenK3, hw, ← hl', ← ha', ← hd', Int.toNat_natCast]
                              repeat' first | exact True.intro | exact .inl rfl | rfl | apply And.intro

                      · cbv
                        repeat' refine And.intro (thi ?_) ?_
                        · simp only [N.eq, lenK1]
                          exact ⟨g2, g3⟩
                        · obtain ⟨l', hl'⟩ : ∃ l', l' = nextL l (Int.ofNat 1099511627776) := ⟨_, rfl⟩
                          obtain ⟨k', hk'⟩ : ∃ k', k' = k + 1 := ⟨_, rfl⟩
                          obtain ⟨a', ha'⟩ : ∃ a', a' = nextX l (Int.ofNat 1099511627776) := ⟨_, rfl⟩
                          obtain ⟨d', hd'⟩ : ∃ d', d' = iat dues a'.toNat := ⟨_, rfl⟩
                          have hw := winc k (by omega)
                          rw [← hk'] at hw
                          rw [← hl', ← ha', ← hk', ← hd'] at g6
                          refine ⟨(l', k', d', a'), ⟨by simp only; omega, g6⟩, by show n - k' < n - k; omega, ?_⟩
                          constructor <;> cbv
                          all_goals
                            try simp only [N.eq, lenK1, lenK3, hw, ← hl', ← ha', ← hd', Int.toNat_natCast]
                            repeat' first | exact True.intro | exact .inl rfl | rfl | apply And.intro

            · rename_i h4
              have h4 : ¬ (k : Int) < (n : Int) := by have h4 := of_decide_eq_false (thb h4); simp only [N.eq] at h4; exact h4
              obtain rfl : k = n := by omega
              obtain ⟨g1, g2, g3⟩ := ord_end ho (Int.ofNat 1099511627776)
              cbv
              refine And.intro (thi (by simp only [N.eq]; omega)) ?_
              split
              · cbv
                repeat' refine And.intro (thi ?_) ?_
                · trivial
                · simp only [N.eq, g2, g3]
                  rfl
              · rename_i h5
                have h5 := thb (not_f h5)
                simp only [N.eq, g1] at h5
                cases h5
  · cases hs
end Go.Sy
