/- QueueWaits: whatever the dues and the time, the law answers true. -/
import Derived.Test.YtfopdmoomdankaaQOrd
set_option linter.unusedVariables false
set_option linter.unusedSimpArgs false
namespace Go.Sy
open Go Go.Proofs Go.Q

theorem ne_of_bne {a b : Int} (h : (a != b) = true) : a ≠ b := by simpa using h
theorem eq_of_bne {a b : Int} (h : (a != b) = false) : a = b := by simpa using h
theorem wsub_nat (n k : Nat) (h : n < 1000000) (hk : k ≤ n) : IntKind.i64.wrap ((n : Int) - (k : Int)) = ((n - k : Nat) : Int) := by rw [IntKind.wrap_i64]; omega
def S4 (N : Hide) : Sp Kq := { ar := 2, nk := [none, none], f := fun l => match l with | [.c (.im (.ints dues)), .c (.v (.int .i64 now))] => some (N.th fun _ => True, .b (.c (.v (.bool true)))) | _ => none }
theorem m4 (N : Hide) : Meets Try.prog (domq N).toDom 4 (S4 N) := by
  refine meets_of N [(8, Strue N), (9, S9 N), (10, S10 N), (11, S11 N), (12, S12 N)] mixq (okq N) (reg_cons (m8 N) (reg_cons (m9 N) (reg_cons (m10 N) (reg_cons (m11 N) (reg_cons (m12 N) reg_nil))))) r4 (fun _ _ => rfl) rfl rfl (fun k h => by simp [S4] at h) fun args pre r hl hs hp => ?_
  unfold S4 at hs
  dsimp only at hs
  split at hs
  · injection hs with hs; injection hs with e1 e2; subst e1; subst e2
    rename_i dues now
    cbv
    refine And.intro (thi trivial) ?_
    split
    · cbv
      repeat' refine And.intro (thi ?_) ?_
      all_goals trivial
    · rename_i h1
      have h1 := of_decide_eq_false (thb h1)
      simp only [N.eq, lenK1] at h1
      have h1 : ¬ ((300 : Int) < (dues.length : Int)) := h1
      have hn : dues.length ≤ 300 := by omega
      cbv
      refine And.intro (thi trivial) ?_
      refine ⟨List Itm × Nat, fun p => p.2 ≤ dues.length ∧ Holds' p.1 (acc dues p.2),
        fun p => { sl := [(0, .b (.c (.im (.ints dues)))), (1, .b (.c (.v (.int .i64 now)))), (5, .b (.c (.p 1022 0))), (6, .b (.c (.v (.int .i64 (N.th fun _ => ((earlyQ now (acc dues p.2)) : Int)))))), (7, .b (.c (.v (.int .i64 (N.th fun _ => ((acc dues p.2).length : Int)))))), (23, .b (.c (.im (.ints dues)))), (24, .b (.c (.v (.int .i64 (N.th fun _ => (dues.length : Int)))))), (25, .b (.c (.v (.int .i64 (N.th fun _ => (p.2 : Int))))))],
                   hp := [(1022, .box 54 [.row 2022, .v (.int .i64 (N.th fun _ => ((acc dues p.2).length : Int)))]), (2022, .row 58 (.items (N.th fun _ => p.1)))] },
        fun p => dues.length - p.2, ([], 0), ⟨Nat.zero_le _, holds_nil⟩, ?_, ?_⟩
      · constructor <;> cbv
        all_goals
          try simp only [N.eq, lenK1, lenK3]
          repeat' first | exact True.intro | exact .inl rfl | rfl | apply And.intro
      · rintro ⟨l, j⟩ ⟨hj, hh⟩
        simp only at hj hh
        have hal := acc_len dues j
        have hlen : l.length = (acc dues j).length := hh.len
        have hel : earlyQ now (acc dues j) ≤ (acc dues j).length := List.countP_le_length
        have hea := earlyQ_acc dues now j
        cbv
        split
        · rename_i h3
          have h3 : (j : Int) < (dues.length : Int) := by have h3 := of_decide_eq_true (thb h3); simp only [N.eq] at h3; exact h3
          have hj' : j < dues.length := by omega
          obtain ⟨p1, p2, p3⟩ := put_acc hh (by omega)
          cbv
          repeat' refine And.intro (thi ?_) ?_
          · simp only [N.eq, lenK1]
            exact ⟨by show (0 : Int) ≤ ((j : Nat) : Int); omega, h3⟩
          · simp only [N.eq]
            exact ⟨⟨by show (0 : Int) ≤ (((acc dues j).length : Nat) : Int); omega, by show (((acc dues j).length : Nat) : Int) < 1000000000000; omega⟩, by omega⟩
          · split
            · rename_i h4
              have h4 := thb h4
              have h4 := ne_of_bne h4
              simp only [N.eq, Int.toNat_natCast] at h4
              have h4' : fit (iat dues j) = false := by
                cases hf : fit (iat dues j) with
                | false => rfl
                | true => exact absurd (p3.2 hf) h4
              cbv
              obtain ⟨l', hl'⟩ : ∃ l', l' = putL l (acc dues j).length (iat dues j) j := ⟨_, rfl⟩
              obtain ⟨j', hj1⟩ : ∃ j', j' = j + 1 := ⟨_, rfl⟩
              rw [← hl', ← hj1] at p1
              rw [← hj1] at p2 hea
              have hw := winc j (by omega)
              have hw2 := winc (acc dues j).length (by omega)
              have hw3 := winc (earlyQ now (acc dues j)) (by omega)
              have hc : (acc dues j').length = (acc dues j).length := by rw [hj1, acc, h4']; simp
              have hd : earlyQ now (acc dues j') = earlyQ now (acc dues j) := by rw [hea]; simp [h4']
              rw [← hj1] at hw
              refine ⟨(l', j'), ⟨by simp only; omega, p1⟩, by show dues.length - j' < dues.length - j; omega, ?_⟩
              constructor <;> cbv
              all_goals
                try simp only [N.eq, lenK1, lenK3, hw, hw2, hw3, p2, ← hl', Int.toNat_natCast, hc, hd]
                repeat' first | exact True.intro | exact .inl rfl | rfl | apply And.intro

            · rename_i h4
              have h4 := thb h4
              have h4 := eq_of_bne h4
              simp only [N.eq, Int.toNat_natCast] at h4
              have h4' : fit (iat dues j) = true := p3.1 h4
              cbv
              split
              · rename_i h5
                have h5 := of_decide_eq_true (thb h5)
                simp only [N.eq, Int.toNat_natCast] at h5
                cbv
                obtain ⟨l', hl'⟩ : ∃ l', l' = putL l (acc dues j).length (iat dues j) j := ⟨_, rfl⟩
                obtain ⟨j', hj1⟩ : ∃ j', j' = j + 1 := ⟨_, rfl⟩
                rw [← hl', ← hj1] at p1
                rw [← hj1] at p2 hea
                have hw := winc j (by omega)
                have hw2 := winc (acc dues j).length (by omega)
                have hw3 := winc (earlyQ now (acc dues j)) (by omega)
                have hc : (acc dues j').length = (acc dues j).length + 1 := by rw [hj1, acc, h4']; simp
                have hd : earlyQ now (acc dues j') = earlyQ now (acc dues j) + 1 := by rw [hea]; simp [h4', h5]
                rw [← hj1] at hw
                refine ⟨(l', j'), ⟨by simp only; omega, p1⟩, by show dues.length - j' < dues.length - j; omega, ?_⟩
                constructor <;> cbv
                all_goals
                  try simp only [N.eq, lenK1, lenK3, hw, hw2, hw3, p2, ← hl', Int.toNat_natCast, hc, hd]
                  repeat' first | exact True.intro | exact .inl rfl | rfl | apply And.intro

              · rename_i h5
                have h5 := of_decide_eq_false (thb h5)
                simp only [N.eq, Int.toNat_natCast] at h5
                cbv
                obtain ⟨l', hl'⟩ : ∃ l', l' = putL l (acc dues j).length (iat dues j) j := ⟨_, rfl⟩
                obtain ⟨j', hj1⟩ : ∃ j', j' = j + 1 := ⟨_, rfl⟩
                rw [← hl', ← hj1] at p1
                rw [← hj1] at p2 hea
                have hw := winc j (by omega)
                have hw2 := winc (acc dues j).length (by omega)
                have hw3 := winc (earlyQ now (acc dues j)) (by omega)
                have hc : (acc dues j').length = (acc dues j).length + 1 := by rw [hj1, acc, h4']; simp
                have hd : earlyQ now (acc dues j') = earlyQ now (acc dues j) := by rw [hea]; simp [h4', h5]
                rw [← hj1] at hw
                refine ⟨(l', j'), ⟨by simp only; omega, p1⟩, by show dues.length - j' < dues.length - j; omega, ?_⟩
                constructor <;> cbv
                all_goals
                  try simp only [N.eq, lenK1, lenK3, hw, hw2, hw3, p2, ← hl', Int.toNat_natCast, hc, hd]
                  repeat' first | exact True.intro | exact .inl rfl | rfl | apply And.intro

        · rename_i h3
          have h3 : ¬ (j : Int) < (dues.length : Int) := by have h3 := of_decide_eq_false (thb h3); simp only [N.eq] at h3; exact h3
          have hjl : j = dues.length := by omega
          subst hjl
          have ho := wai_start (now := now) hh
          generalize hn' : (acc dues dues.length).length = n at *
          generalize he' : earlyQ now (acc dues dues.length) = e at *
          cbv
          refine ⟨List Itm × Nat, fun p => p.2 ≤ e ∧ Wai dues now p.1 n e p.2,
            fun p => { sl := [(0, .b (.c (.im (.ints dues)))), (1, .b (.c (.v (.int .i64 now)))), (5, .b (.c (.p 1022 0))), (6, .b (.c (.v (.int .i64 (N.th fun _ => (e : Int)))))), (7, .b (.c (.v (.int .i64 (N.th fun _ => (n : Int)))))), (43, .b (.c (.v (.int .i64 (N.th fun _ => (e : Int)))))), (44, .b (.c (.v (.int .i64 (N.th fun _ => (p.2 : Int))))))],
                       hp := [(1022, .box 54 [.row 2022, .v (.int .i64 (N.th fun _ => (n : Int)))]), (2022, .row 58 (.items (N.th fun _ => p.1)))] },
            fun p => e - p.2, (l, 0), ⟨Nat.zero_le _, ho⟩, ?_, ?_⟩
          · constructor <;> cbv
            all_goals
              try simp only [N.eq, lenK1, lenK3]
              repeat' first | exact True.intro | exact .inl rfl | rfl | apply And.intro
          · clear ho hh hlen hea
            rintro ⟨l, k⟩ ⟨hk, ho⟩
            simp only at hk ho
            have hlen := ho.len
            cbv
            split
            · rename_i h4
              have h4 : (k : Int) < (e : Int) := by have h4 := of_decide_eq_true (thb h4); simp only [N.eq] at h4; exact h4
              have hkn : k < e := by omega
              obtain ⟨g1, g2, g3, g4, g5⟩ := wai_next ho hkn
              cbv
              refine And.intro (thi (by simp only [N.eq]; omega)) ?_
              split
              · rename_i h5
                have h5 := thb (not_t h5)
                simp only [N.eq, g1] at h5
                cases h5
              · cbv
                repeat' refine And.intro (thi ?_) ?_
                · simp only [N.eq, lenK1]
                  exact ⟨g2, g3⟩
                · split
                  · rename_i h6
                    have h6 := thb h6
                    have h6 := of_decide_eq_true h6
                    simp only [N.eq] at h6
                    exact absurd h6 g4
                  · cbv
                    obtain ⟨l', hl'⟩ : ∃ l', l' = nextL l now := ⟨_, rfl⟩
                    obtain ⟨k', hk'⟩ : ∃ k', k' = k + 1 := ⟨_, rfl⟩
                    have hw := winc k (by omega)
                    rw [← hk'] at hw
                    rw [← hl', ← hk'] at g5
                    refine ⟨(l', k'), ⟨by simp only; omega, g5⟩, by show e - k' < e - k; omega, ?_⟩
                    constructor <;> cbv
                    all_goals
                      try simp only [N.eq, lenK1, lenK3, hw, ← hl', Int.toNat_natCast]
                      repeat' first | exact True.intro | exact .inl rfl | rfl | apply And.intro
            · rename_i h4
              have h4 : ¬ (k : Int) < (e : Int) := by have h4 := of_decide_eq_false (thb h4); simp only [N.eq] at h4; exact h4
              obtain rfl : k = e := by omega
              obtain ⟨g1, g2, g3⟩ := wai_end ho
              have hsub := wsub_nat n k (by omega) ho.le1
              cbv
              refine And.intro (thi (by simp only [N.eq]; omega)) ?_
              split
              · cbv
                repeat' refine And.intro (thi ?_) ?_
                · trivial
                · simp only [N.eq, g2, g3, hsub]
                  exact congrArg (fun b => C.v (Value.bool b)) (beq_self_eq_true _)
              · rename_i h5
                have h5 := thb (not_f h5)
                simp only [N.eq, g1] at h5
                cases h5
  · cases hs
end Go.Sy
