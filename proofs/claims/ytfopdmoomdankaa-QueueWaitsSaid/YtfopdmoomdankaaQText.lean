/- The queue's functions, read. -/
import Derived.Test.YtfopdmoomdankaaProg
import Derived.KernelRfl
import Derived.Test.YtfopdmoomdankaaQDom
set_option linter.unusedVariables false
set_option linter.unusedSimpArgs false
namespace Go.Sy
open Go Go.Proofs

theorem rs_vals {K : Type} {D : Dom K} {val : Nat → Option Value} {ok : Nat → Prop} {w : World} : ∀ {l : List Value}, ones l = true → Rs D val ok w (l.map .v) l
  | [], _ => Rs.nil D
  | x :: r, h => by
    simp only [ones] at h
    split at h
    · exact Rs.cons D ⟨0, rfl, by assumption⟩ (rs_vals h)
    · cases h

theorem mixq : Try.prog.follows .mixedOrders = true := by kernel_rfl
theorem z54 : ((Try.prog.info? 54).bind fun i => i.zero.map fun z => (i.size, z.cells.toList)) = some (2, [.slice none 0 0, .int .i64 0]) := by kernel_rfl
theorem z58 : ((Try.prog.info? 58).bind fun i => i.zero.map fun z => (i.size, z.cells.toList)) = some (3, [.int .i64 0, .int .i64 0, .int .i64 0]) := by kernel_rfl
def isStr (P : Program) (T : TypeId) : Bool := match P.underlying T with | some (.struct _) => true | _ => false
theorem u54 : isStr Try.prog 54 = true := by kernel_rfl
theorem u58 : isStr Try.prog 58 = true := by kernel_rfl
theorem str_of {P : Program} {T : TypeId} (h : isStr P T = true) : ∃ fs, P.underlying T = some (.struct fs) := by
  unfold isStr at h
  split at h
  · exact ⟨_, by assumption⟩
  · cases h
theorem zero_of {P : Program} {T n : Nat} {l : List Value} (h : ((P.info? T).bind fun i => i.zero.map fun z => (i.size, z.cells.toList)) = some (n, l)) (hn : l.length = n) :
    ∃ i z, P.info? T = some i ∧ i.zero = some z ∧ i.size = z.cells.size ∧ z.cells.toList = l := by
  obtain ⟨i, h1, h2⟩ := Option.bind_eq_some_iff.1 h
  obtain ⟨z, h3, h4⟩ := Option.map_eq_some_iff.1 h2
  injection h4 with h4 h5
  exact ⟨i, z, h1, h3, by rw [h4, ← hn, ← h5]; simp, h5⟩

theorem okq (N : Hide) : DomOk Try.prog (domq N) := by
  refine ⟨fun T ob h => ?_, fun T cs T' h => ?_, fun e n k h => by cases h⟩
  · simp only [domq, zq] at h
    split at h
    · injection h with h; subst h
      obtain ⟨i, z, h1, h2, h3, h4⟩ := zero_of z54 rfl
      exact ⟨i, z, h1, h2, h3, rfl, fun w ok => by rw [h4]; exact rs_vals (l := [.slice none 0 0, .int .i64 0]) rfl⟩
    · injection h with h; subst h
      obtain ⟨i, z, h1, h2, h3, h4⟩ := zero_of z58 rfl
      exact ⟨i, z, h1, h2, h3, rfl, fun w ok => by rw [h4]; exact rs_vals (l := [.int .i64 0, .int .i64 0, .int .i64 0]) rfl⟩
    · cases h
  · simp only [domq, zq] at h
    split at h
    · exact str_of u54
    · exact str_of u58
    · cases h

theorem reg_nil {P : Program} {K : Type} {D : Dom K} : ∀ f s, lk ([] : List (Nat × Sp K)) f = some s → Meets P D f s := fun f s h => by simp [lk] at h
theorem reg_cons {P : Program} {K : Type} {D : Dom K} {R : List (Nat × Sp K)} {f0 : Nat} {s0 : Sp K} (h0 : Meets P D f0 s0) (hR : ∀ f s, lk R f = some s → Meets P D f s) : ∀ f s, lk ((f0, s0) :: R) f = some s → Meets P D f s := fun f s h => by
  by_cases hf : f = f0
  · subst hf; rw [lk_cons_same] at h; injection h with h; subst h; exact h0
  · rw [lk_cons_other hf] at h; exact hR f s h

def h41 : Hint := {}
def s41 : S :=
  S.seq (S.ops [{ d := some 2, g := none, i := I.mv (O.k (Value.bool false)) }])
  (S.seq
    (S.ops
      [{ d := some 3, g := none, i := I.mv (O.t 0) }, { d := some 4, g := none, i := I.mv (O.t 0) }, { d := some 5, g := none, i := I.bin BinOp.neq (O.t 3) (O.t 4) },
        { d := some 2, g := none, i := I.mv (O.t 5) }])
    S.ret)
theorem r41 : readFn Try.prog 41 h41 = some (s41, [RV.t 2], 6) := by kernel_rfl

def h30 : Hint := {}
def s30 : S :=
  S.seq (S.ops [{ d := some 4, g := none, i := I.mv (O.k (Value.int IntKind.i64 (Int.ofNat 0))) }])
  (S.seq (S.ops [{ d := some 7, g := none, i := I.mv (O.t 0) }, { d := some 8, g := none, i := I.call (O.f 41) [O.t 7] }, { d := some 5, g := none, i := I.mv (O.t 8) }])
    (S.seq (S.ops [{ d := some 9, g := none, i := I.mv (O.t 1) }, { d := some 10, g := none, i := I.call (O.f 41) [O.t 9] }, { d := some 6, g := none, i := I.mv (O.t 10) }])
      (S.seq
        (S.seq (S.ops [{ d := some 11, g := none, i := I.mv (O.t 5) }])
          (S.cond (O.t 11)
            (S.seq
              (S.seq (S.ops [{ d := some 12, g := none, i := I.mv (O.t 6) }])
                (S.cond (O.t 12) (S.seq (S.ops [{ d := some 4, g := none, i := I.mv (O.k (Value.int IntKind.i64 (Int.ofNat 0))) }]) S.ret) S.skip))
              (S.seq (S.ops [{ d := some 4, g := none, i := I.mv (O.k (Value.int IntKind.i64 (Int.negSucc 0))) }]) S.ret))
            S.skip))
        (S.seq
          (S.seq (S.ops [{ d := some 13, g := none, i := I.mv (O.t 6) }])
            (S.cond (O.t 13) (S.seq (S.ops [{ d := some 4, g := none, i := I.mv (O.k (Value.int IntKind.i64 (Int.ofNat 1))) }]) S.ret) S.skip))
          (S.seq
            (S.seq (S.ops [{ d := some 14, g := none, i := I.mv (O.t 0) }, { d := some 15, g := none, i := I.mv (O.t 1) }, { d := some 16, g := none, i := I.bin BinOp.lss (O.t 14) (O.t 15) }])
              (S.cond (O.t 16) (S.seq (S.ops [{ d := some 4, g := none, i := I.mv (O.k (Value.int IntKind.i64 (Int.negSucc 0))) }]) S.ret) S.skip))
            (S.seq
              (S.seq (S.ops [{ d := some 17, g := none, i := I.mv (O.t 0) }, { d := some 18, g := none, i := I.mv (O.t 1) }, { d := some 19, g := none, i := I.bin BinOp.gtr (O.t 17) (O.t 18) }])
                (S.cond (O.t 19) (S.seq (S.ops [{ d := some 4, g := none, i := I.mv (O.k (Value.int IntKind.i64 (Int.ofNat 1))) }]) S.ret) S.skip))
              (S.seq (S.ops [{ d := some 4, g := none, i := I.mv (O.k (Value.int IntKind.i64 (Int.ofNat 0))) }]) S.ret)))))))
theorem r30 : readFn Try.prog 30 h30 = some (s30, [RV.t 4], 20) := by kernel_rfl

def h29 : Hint := {}
def s29 : S :=
  S.seq (S.ops [{ d := some 2, g := none, i := I.mv (O.k (Value.int IntKind.i64 (Int.ofNat 0))) }])
  (S.seq (S.ops [{ d := some 3, g := none, i := I.mv (O.k (Value.int IntKind.i64 (Int.ofNat 0))) }])
    (S.seq
      (S.seq (S.ops [{ d := some 6, g := none, i := I.mv (O.t 0) }, { d := some 7, g := none, i := I.len (O.t 6) }, { d := some 8, g := none, i := I.mv (O.k (Value.int IntKind.i64 (Int.ofNat 0))) }])
        (S.block 0
          (S.loop
            (S.seq (S.ops [{ d := some 9, g := none, i := I.bin BinOp.lss (O.t 8) (O.t 7) }])
              (S.seq (S.cond (O.t 9) S.skip (S.exit 0))
                (S.seq
                  (S.block 1
                    (S.seq
                      (S.ops [{ d := some 10, g := none, i := I.iad 1 0 (O.t 6) (O.t 8) }, { d := some 11, g := none, i := I.ld false 1 (O.t 10) }, { d := some 5, g := none, i := I.mv (O.t 11) }])
                      (S.seq
                        (S.ops [{ d := some 12, g := none, i := I.mv (O.t 5) }, { d := some 13, g := none, i := I.mv (O.t 3) }, { d := some 14, g := none, i := I.bin BinOp.neq (O.t 12) (O.t 13) }])
                        (S.cond (O.t 14) (S.seq (S.ops [{ d := some 15, g := none, i := I.mv (O.t 5) }, { d := some 2, g := none, i := I.mv (O.t 15) }]) S.ret) S.skip))))
                  (S.ops [{ d := some 16, g := none, i := I.bin BinOp.add (O.t 8) (O.k (Value.int IntKind.i64 (Int.ofNat 1))) }, { d := some 8, g := none, i := I.mv (O.t 16) }])))))))
      (S.seq (S.ops [{ d := some 17, g := none, i := I.mv (O.t 3) }, { d := some 2, g := none, i := I.mv (O.t 17) }]) S.ret)))
theorem r29 : readFn Try.prog 29 h29 = some (s29, [RV.t 2], 18) := by kernel_rfl

def h82 : Hint := {}
def s82 : S :=
  S.seq (S.ops [{ d := some 2, g := none, i := I.box 58 (O.t 0) }, { d := some 3, g := none, i := I.box 58 (O.t 1) }, { d := some 4, g := none, i := I.mv (O.k (Value.bool false)) }])
  (S.seq
    (S.any 13
      [{ d := some 5, g := none, i := I.fad 0 (O.t 2) }, { d := some 6, g := none, i := I.ld false 1 (O.t 5) }, { d := some 7, g := none, i := I.fad 0 (O.t 3) },
        { d := some 8, g := none, i := I.ld false 1 (O.t 7) }, { d := some 9, g := none, i := I.call (O.f 30) [O.t 6, O.t 8] }, { d := some 10, g := none, i := I.fad 1 (O.t 2) },
        { d := some 11, g := none, i := I.ld false 1 (O.t 10) }, { d := some 12, g := none, i := I.fad 1 (O.t 3) }, { d := some 13, g := none, i := I.ld false 1 (O.t 12) },
        { d := some 14, g := none, i := I.call (O.f 30) [O.t 11, O.t 13] }, { d := some 15, g := none, i := I.bsl false 3 1 [O.t 9, O.t 14] },
        { d := some 16, g := none, i := I.call (O.f 29) [O.t 15] }, { d := some 17, g := none, i := I.bin BinOp.lss (O.t 16) (O.k (Value.int IntKind.i64 (Int.ofNat 0))) },
        { d := some 4, g := none, i := I.mv (O.t 17) }])
    S.ret)
theorem r82 : readFn Try.prog 82 h82 = some (s82, [RV.t 4], 18) := by kernel_rfl

def h79 : Hint := {}
def s79 : S :=
  S.seq (S.ops [{ d := some 2, g := none, i := I.mv (O.k (Value.int IntKind.i64 (Int.ofNat 0))) }])
  (S.seq (S.ops [{ d := some 3, g := none, i := I.mv (O.t 0) }, { d := some 4, g := none, i := I.len (O.t 3) }, { d := some 2, g := none, i := I.mv (O.t 4) }]) S.ret)
theorem r79 : readFn Try.prog 79 h79 = some (s79, [RV.t 2], 5) := by kernel_rfl

def h80 : Hint := {}
def s80 : S :=
  S.seq (S.ops [{ d := some 6, g := none, i := I.mv (O.k (Value.bool false)) }])
  (S.seq
    (S.any 9
      [{ d := some 7, g := none, i := I.mv (O.t 0) }, { d := some 8, g := none, i := I.mv (O.t 1) }, { d := some 9, g := none, i := I.iad 3 0 (O.t 7) (O.t 8) },
        { d := some 10, g := none, i := I.ld true 3 (O.t 9) }, { d := some 11, g := none, i := I.mv (O.t 0) }, { d := some 12, g := none, i := I.mv (O.t 2) },
        { d := some 13, g := none, i := I.iad 3 0 (O.t 11) (O.t 12) }, { d := some 14, g := none, i := I.ld true 3 (O.t 13) }, { d := some 15, g := none, i := I.call (O.f 82) [O.t 10, O.t 14] },
        { d := some 6, g := none, i := I.mv (O.t 15) }])
    S.ret)
theorem r80 : readFn Try.prog 80 h80 = some (s80, [RV.t 6], 16) := by kernel_rfl

def h81 : Hint := {}
def s81 : S :=
  S.any 13
  [{ d := some 6, g := none, i := I.mv (O.t 0) }, { d := some 7, g := none, i := I.mv (O.t 1) }, { d := some 8, g := none, i := I.mv (O.t 0) }, { d := some 9, g := none, i := I.mv (O.t 2) },
    { d := some 10, g := none, i := I.mv (O.t 0) }, { d := some 11, g := none, i := I.mv (O.t 2) }, { d := some 12, g := none, i := I.iad 3 0 (O.t 10) (O.t 11) },
    { d := some 13, g := none, i := I.ld true 3 (O.t 12) }, { d := some 14, g := none, i := I.mv (O.t 0) }, { d := some 15, g := none, i := I.mv (O.t 1) },
    { d := some 16, g := none, i := I.iad 3 0 (O.t 14) (O.t 15) }, { d := some 17, g := none, i := I.ld true 3 (O.t 16) }, { d := some 18, g := none, i := I.iad 3 0 (O.t 6) (O.t 7) },
    { d := none, g := none, i := I.sto 3 (O.t 18) (O.t 13) }, { d := some 19, g := none, i := I.iad 3 0 (O.t 8) (O.t 9) }, { d := none, g := none, i := I.sto 3 (O.t 19) (O.t 17) }]
theorem r81 : readFn Try.prog 81 h81 = some (s81, [], 20) := by kernel_rfl

def h83 : Hint := {}
def s83 : S :=
  S.seq (S.ops [{ d := some 2, g := none, i := I.mv (O.k Value.nilIface) }])
  (S.seq
    (S.ops
      [{ d := some 5, g := none, i := I.mv (O.t 0) }, { d := some 6, g := none, i := I.nilc (O.t 5) }, { d := some 7, g := none, i := I.ld false 1 (O.t 6) },
        { d := some 8, g := none, i := I.len (O.t 7) }, { d := some 9, g := none, i := I.bin BinOp.sub (O.t 8) (O.k (Value.int IntKind.i64 (Int.ofNat 1))) },
        { d := some 3, g := none, i := I.mv (O.t 9) }])
    (S.seq
      (S.ops
        [{ d := some 10, g := none, i := I.mv (O.t 0) }, { d := some 11, g := none, i := I.nilc (O.t 10) }, { d := some 12, g := none, i := I.ld false 1 (O.t 11) },
          { d := some 13, g := none, i := I.mv (O.t 3) }, { d := some 14, g := none, i := I.iad 3 0 (O.t 12) (O.t 13) }, { d := some 15, g := none, i := I.ld true 3 (O.t 14) },
          { d := some 4, g := none, i := I.alloc 58 }, { d := none, g := none, i := I.sto 3 (O.t 4) (O.t 15) }])
      (S.seq
        (S.ops
          [{ d := some 16, g := none, i := I.mv (O.t 0) }, { d := some 17, g := none, i := I.mv (O.t 0) }, { d := some 18, g := none, i := I.nilc (O.t 17) },
            { d := some 19, g := none, i := I.ld false 1 (O.t 18) }, { d := some 20, g := none, i := I.mv (O.t 3) }, { d := some 21, g := none, i := I.slc 3 (O.t 19) none (some (O.t 20)) },
            { d := some 22, g := none, i := I.nilc (O.t 16) }, { d := none, g := none, i := I.sto 1 (O.t 22) (O.t 21) }])
        (S.seq (S.ops [{ d := some 23, g := none, i := I.ld true 3 (O.t 4) }, { d := some 24, g := none, i := I.mki 58 (O.t 23) }, { d := some 2, g := none, i := I.mv (O.t 24) }]) S.ret))))
theorem r83 : readFn Try.prog 83 h83 = some (s83, [RV.t 2], 25) := by kernel_rfl

def h84 : Hint := {}
def s84 : S :=
  S.seq
  (S.ops
    [{ d := some 7, g := none, i := I.mv (O.t 1) }, { d := some 8, g := none, i := I.tas 58 (O.t 7) }, { d := some 6, g := none, i := I.mv (O.t 8) }, { d := some 9, g := none, i := I.ext (O.t 6) 0 },
      { d := some 10, g := none, i := I.ext (O.t 6) 1 }, { d := some 4, g := none, i := I.alloc 58 }, { d := none, g := none, i := I.sto 3 (O.t 4) (O.t 9) },
      { d := some 5, g := none, i := I.mv (O.t 10) }])
  (S.seq (S.ops [{ d := some 11, g := none, i := I.mv (O.t 5) }])
    (S.cond (O.t 11)
      (S.any 6
        [{ d := some 12, g := none, i := I.mv (O.t 0) }, { d := some 13, g := none, i := I.mv (O.t 0) }, { d := some 14, g := none, i := I.nilc (O.t 13) },
          { d := some 15, g := none, i := I.ld false 1 (O.t 14) }, { d := some 16, g := none, i := I.ld true 3 (O.t 4) }, { d := some 17, g := none, i := I.bsl false 58 3 [O.t 16] },
          { d := some 18, g := none, i := I.app 58 3 24 (O.t 15) (O.t 17) }, { d := some 19, g := none, i := I.nilc (O.t 12) }, { d := none, g := none, i := I.sto 1 (O.t 19) (O.t 18) }])
      S.skip))
theorem r84 : readFn Try.prog 84 h84 = some (s84, [], 20) := by kernel_rfl




def h36 : Hint := { ifc := [("Less", 56), ("Swap", 56), ("Len", 56), ("Push", 56), ("Pop", 56)] }
def s36 : S :=
  S.block 0
  (S.loop
    (S.block 1
      (S.seq
        (S.ops
          [{ d := some 5, g := none, i := I.mv (O.t 1) }, { d := some 6, g := none, i := I.bin BinOp.sub (O.t 5) (O.k (Value.int IntKind.i64 (Int.ofNat 1))) },
            { d := some 7, g := none, i := I.bin BinOp.quo (O.t 6) (O.k (Value.int IntKind.i64 (Int.ofNat 2))) }, { d := some 4, g := none, i := I.mv (O.t 7) }])
        (S.seq
          (S.seq
            (S.ops
              [{ d := some 8, g := none, i := I.mv (O.t 4) }, { d := some 9, g := none, i := I.mv (O.t 1) }, { d := some 10, g := none, i := I.bin BinOp.eql (O.t 8) (O.t 9) },
                { d := some 11, g := none, i := I.mv (O.t 10) }, { d := some 12, g := some (11, false), i := I.mv (O.t 0) }, { d := some 13, g := some (11, false), i := I.mv (O.t 1) },
                { d := some 14, g := some (11, false), i := I.mv (O.t 4) }, { d := some 15, g := some (11, false), i := I.inv 56 80 (some (false, 1)) (O.t 12) [O.t 13, O.t 14] },
                { d := some 16, g := some (11, false), i := I.nt (O.t 15) }, { d := some 17, g := none, i := I.pick (O.t 11) (O.k (Value.bool true)) (O.t 16) }])
            (S.cond (O.t 17) (S.exit 0) S.skip))
          (S.seq
            (S.ops
              [{ d := some 18, g := none, i := I.mv (O.t 0) }, { d := some 19, g := none, i := I.mv (O.t 4) }, { d := some 20, g := none, i := I.mv (O.t 1) },
                { d := some 21, g := none, i := I.inv 56 81 (some (false, 1)) (O.t 18) [O.t 19, O.t 20] }])
            (S.ops [{ d := some 22, g := none, i := I.mv (O.t 4) }, { d := some 1, g := none, i := I.mv (O.t 22) }]))))))
theorem r36 : readFn Try.prog 36 h36 = some (s36, [], 23) := by kernel_rfl

def h37 : Hint := { ifc := [("Less", 56), ("Swap", 56), ("Len", 56), ("Push", 56), ("Pop", 56)] }
def s37 : S :=
  S.seq (S.ops [{ d := some 6, g := none, i := I.mv (O.k (Value.bool false)) }])
  (S.seq (S.ops [{ d := some 11, g := none, i := I.mv (O.t 1) }, { d := some 7, g := none, i := I.mv (O.t 11) }])
    (S.seq
      (S.block 0
        (S.loop
          (S.block 1
            (S.seq
              (S.ops
                [{ d := some 12, g := none, i := I.mv (O.t 7) }, { d := some 13, g := none, i := I.bin BinOp.mul (O.k (Value.int IntKind.i64 (Int.ofNat 2))) (O.t 12) },
                  { d := some 14, g := none, i := I.bin BinOp.add (O.t 13) (O.k (Value.int IntKind.i64 (Int.ofNat 1))) }, { d := some 8, g := none, i := I.mv (O.t 14) }])
              (S.seq
                (S.seq
                  (S.ops
                    [{ d := some 15, g := none, i := I.mv (O.t 8) }, { d := some 16, g := none, i := I.mv (O.t 2) }, { d := some 17, g := none, i := I.bin BinOp.geq (O.t 15) (O.t 16) },
                      { d := some 18, g := none, i := I.mv (O.t 17) }, { d := some 19, g := some (18, false), i := I.mv (O.t 8) },
                      { d := some 20, g := some (18, false), i := I.bin BinOp.lss (O.t 19) (O.k (Value.int IntKind.i64 (Int.ofNat 0))) },
                      { d := some 21, g := none, i := I.pick (O.t 18) (O.k (Value.bool true)) (O.t 20) }])
                  (S.cond (O.t 21) (S.exit 0) S.skip))
                (S.seq (S.ops [{ d := some 22, g := none, i := I.mv (O.t 8) }, { d := some 9, g := none, i := I.mv (O.t 22) }])
                  (S.seq
                    (S.seq
                      (S.ops
                        [{ d := some 23, g := none, i := I.mv (O.t 8) }, { d := some 24, g := none, i := I.bin BinOp.add (O.t 23) (O.k (Value.int IntKind.i64 (Int.ofNat 1))) },
                          { d := some 10, g := none, i := I.mv (O.t 24) }])
                      (S.seq
                        (S.ops
                          [{ d := some 25, g := none, i := I.mv (O.t 10) }, { d := some 26, g := none, i := I.mv (O.t 2) }, { d := some 27, g := none, i := I.bin BinOp.lss (O.t 25) (O.t 26) },
                            { d := some 28, g := none, i := I.mv (O.t 27) }, { d := some 29, g := some (28, true), i := I.mv (O.t 0) }, { d := some 30, g := some (28, true), i := I.mv (O.t 10) },
                            { d := some 31, g := some (28, true), i := I.mv (O.t 8) }, { d := some 32, g := some (28, true), i := I.inv 56 80 (some (false, 1)) (O.t 29) [O.t 30, O.t 31] },
                            { d := some 33, g := none, i := I.pick (O.t 28) (O.t 32) (O.k (Value.bool false)) }])
                        (S.cond (O.t 33) (S.ops [{ d := some 34, g := none, i := I.mv (O.t 10) }, { d := some 9, g := none, i := I.mv (O.t 34) }]) S.skip)))
                    (S.seq
                      (S.seq
                        (S.ops
                          [{ d := some 35, g := none, i := I.mv (O.t 0) }, { d := some 36, g := none, i := I.mv (O.t 9) }, { d := some 37, g := none, i := I.mv (O.t 7) },
                            { d := some 38, g := none, i := I.inv 56 80 (some (false, 1)) (O.t 35) [O.t 36, O.t 37] }, { d := some 39, g := none, i := I.nt (O.t 38) }])
                        (S.cond (O.t 39) (S.exit 0) S.skip))
                      (S.seq
                        (S.ops
                          [{ d := some 40, g := none, i := I.mv (O.t 0) }, { d := some 41, g := none, i := I.mv (O.t 7) }, { d := some 42, g := none, i := I.mv (O.t 9) },
                            { d := some 43, g := none, i := I.inv 56 81 (some (false, 1)) (O.t 40) [O.t 41, O.t 42] }])
                        (S.ops [{ d := some 44, g := none, i := I.mv (O.t 9) }, { d := some 7, g := none, i := I.mv (O.t 44) }]))))))))))
      (S.seq
        (S.ops
          [{ d := some 45, g := none, i := I.mv (O.t 7) }, { d := some 46, g := none, i := I.mv (O.t 1) }, { d := some 47, g := none, i := I.bin BinOp.gtr (O.t 45) (O.t 46) },
            { d := some 6, g := none, i := I.mv (O.t 47) }])
        S.ret)))
theorem r37 : readFn Try.prog 37 h37 = some (s37, [RV.t 6], 48) := by kernel_rfl

def h24 : Hint := { ifc := [("Less", 56), ("Swap", 56), ("Len", 56), ("Push", 56), ("Pop", 56)], lent := [36, 37] }
def s24 : S :=
  S.seq (S.ops [{ d := some 4, g := none, i := I.mv (O.t 0) }, { d := some 5, g := none, i := I.mv (O.t 1) }, { d := some 6, g := none, i := I.inv 56 84 none (O.t 4) [O.t 5] }])
  (S.ops
    [{ d := some 7, g := none, i := I.mv (O.t 0) }, { d := some 8, g := none, i := I.mv (O.t 0) }, { d := some 9, g := none, i := I.inv 56 79 (some (false, 1)) (O.t 8) [] },
      { d := some 10, g := none, i := I.bin BinOp.sub (O.t 9) (O.k (Value.int IntKind.i64 (Int.ofNat 1))) }, { d := some 11, g := none, i := I.callm (O.f 36) [O.t 7, O.t 10] }])
theorem r24 : readFn Try.prog 24 h24 = some (s24, [], 12) := by kernel_rfl

def h25 : Hint := { ifc := [("Less", 56), ("Swap", 56), ("Len", 56), ("Push", 56), ("Pop", 56)], lent := [36, 37] }
def s25 : S :=
  S.seq (S.ops [{ d := some 2, g := none, i := I.mv (O.k Value.nilIface) }])
  (S.seq
    (S.ops
      [{ d := some 4, g := none, i := I.mv (O.t 0) }, { d := some 5, g := none, i := I.inv 56 79 (some (false, 1)) (O.t 4) [] },
        { d := some 6, g := none, i := I.bin BinOp.sub (O.t 5) (O.k (Value.int IntKind.i64 (Int.ofNat 1))) }, { d := some 3, g := none, i := I.mv (O.t 6) }])
    (S.seq
      (S.ops
        [{ d := some 7, g := none, i := I.mv (O.t 0) }, { d := some 8, g := none, i := I.mv (O.t 3) },
          { d := some 9, g := none, i := I.inv 56 81 (some (false, 1)) (O.t 7) [O.k (Value.int IntKind.i64 (Int.ofNat 0)), O.t 8] }])
      (S.seq
        (S.ops
          [{ d := some 10, g := none, i := I.mv (O.t 0) }, { d := some 11, g := none, i := I.mv (O.t 3) },
            { d := some 12, g := none, i := I.callm (O.f 37) [O.t 10, O.k (Value.int IntKind.i64 (Int.ofNat 0)), O.t 11] }])
        (S.seq (S.ops [{ d := some 13, g := none, i := I.mv (O.t 0) }, { d := some 14, g := none, i := I.inv 56 83 none (O.t 13) [] }, { d := some 2, g := none, i := I.mv (O.t 14) }]) S.ret))))
theorem r25 : readFn Try.prog 25 h25 = some (s25, [RV.t 2], 15) := by kernel_rfl

def h10 : Hint := { lent := [24, 25, 19, 12, 10, 11, 9] }
def s10 : S :=
  S.seq (S.ops [{ d := some 6, g := none, i := I.mv (O.k (Value.int IntKind.i64 (Int.ofNat 0))) }])
  (S.seq
    (S.block 0
      (S.seq (S.ops [{ d := some 8, g := none, i := I.mv (O.t 0) }, { d := some 9, g := none, i := I.eqn false (O.t 8) }, { d := some 7, g := none, i := I.mv (O.t 9) }])
        (S.cond (O.t 7) (S.seq (S.ops [{ d := some 6, g := none, i := I.mv (O.k (Value.int IntKind.i64 (Int.ofNat 1))) }]) S.ret)
          (S.seq
            (S.ops
              [{ d := some 11, g := none, i := I.mv (O.t 1) }, { d := some 12, g := none, i := I.bin BinOp.lss (O.t 11) (O.k (Value.int IntKind.i64 (Int.ofNat 0))) },
                { d := some 13, g := none, i := I.mv (O.t 12) }, { d := some 14, g := some (13, false), i := I.mv (O.t 1) },
                { d := some 15, g := some (13, false), i := I.bin BinOp.gtr (O.t 14) (O.k (Value.int IntKind.i64 (Int.ofNat 1099511627776))) },
                { d := some 16, g := none, i := I.pick (O.t 13) (O.k (Value.bool true)) (O.t 15) }, { d := some 10, g := none, i := I.mv (O.t 16) }])
            (S.cond (O.t 10) (S.seq (S.ops [{ d := some 6, g := none, i := I.mv (O.k (Value.int IntKind.i64 (Int.ofNat 2))) }]) S.ret)
              (S.seq
                (S.ops
                  [{ d := some 18, g := none, i := I.mv (O.t 0) }, { d := some 19, g := none, i := I.nilc (O.t 18) }, { d := some 20, g := none, i := I.fad 0 (O.t 19) },
                    { d := some 21, g := none, i := I.ld false 1 (O.t 20) }, { d := some 22, g := none, i := I.len (O.t 21) },
                    { d := some 23, g := none, i := I.bin BinOp.geq (O.t 22) (O.k (Value.int IntKind.i64 (Int.ofNat 4096))) }, { d := some 17, g := none, i := I.mv (O.t 23) }])
                (S.cond (O.t 17) (S.seq (S.ops [{ d := some 6, g := none, i := I.mv (O.k (Value.int IntKind.i64 (Int.ofNat 4))) }]) S.ret) S.skip)))))))
    (S.seq
      (S.ops
        [{ d := some 24, g := none, i := I.mv (O.t 0) }, { d := some 25, g := none, i := I.nilc (O.t 24) }, { d := some 26, g := none, i := I.fad 1 (O.t 25) },
          { d := some 27, g := none, i := I.ld false 1 (O.t 26) }, { d := some 28, g := none, i := I.bin BinOp.add (O.t 27) (O.k (Value.int IntKind.i64 (Int.ofNat 1))) },
          { d := some 29, g := none, i := I.nilc (O.t 24) }, { d := some 30, g := none, i := I.fad 1 (O.t 29) }, { d := none, g := none, i := I.sto 1 (O.t 30) (O.t 28) }])
      (S.seq
        (S.any 12
          [{ d := some 31, g := none, i := I.mv (O.t 0) }, { d := some 32, g := none, i := I.nilc (O.t 31) }, { d := some 33, g := none, i := I.fad 0 (O.t 32) },
            { d := some 34, g := none, i := I.mki 56 (O.t 33) }, { d := some 35, g := none, i := I.mv (O.t 1) }, { d := some 36, g := none, i := I.mv (O.t 0) },
            { d := some 37, g := none, i := I.nilc (O.t 36) }, { d := some 38, g := none, i := I.fad 1 (O.t 37) }, { d := some 39, g := none, i := I.ld false 1 (O.t 38) },
            { d := some 40, g := none, i := I.mv (O.t 2) }, { d := some 41, g := none, i := I.build 58 [(0, 1, O.t 35), (1, 1, O.t 39), (2, 1, O.t 40)] },
            { d := some 42, g := none, i := I.mki 58 (O.t 41) }, { d := some 43, g := none, i := I.callm (O.f 24) [O.t 34, O.t 42] }])
        (S.seq (S.ops [{ d := some 6, g := none, i := I.mv (O.k (Value.int IntKind.i64 (Int.ofNat 0))) }]) S.ret))))
theorem r10 : readFn Try.prog 10 h10 = some (s10, [RV.t 6], 44) := by kernel_rfl

def h11 : Hint := { lent := [24, 25, 19, 12, 10, 11, 9] }
def s11 : S :=
  S.seq (S.ops [{ d := some 4, g := none, i := I.mv (O.k (Value.int IntKind.i64 (Int.ofNat 0))) }, { d := some 5, g := none, i := I.mv (O.k (Value.bool false)) }])
  (S.seq (S.ops [{ d := some 6, g := none, i := I.mv (O.k (Value.int IntKind.i64 (Int.ofNat 0))) }])
    (S.seq
      (S.seq
        (S.ops
          [{ d := some 11, g := none, i := I.mv (O.t 0) }, { d := some 12, g := none, i := I.callm (O.f 19) [O.t 11] }, { d := some 10, g := none, i := I.mv (O.t 12) },
            { d := some 13, g := none, i := I.ext (O.t 10) 0 }, { d := some 14, g := none, i := I.ext (O.t 10) 1 }, { d := some 7, g := none, i := I.mv (O.t 13) },
            { d := some 8, g := none, i := I.mv (O.t 14) }])
        (S.seq
          (S.ops
            [{ d := some 15, g := none, i := I.mv (O.t 8) }, { d := some 16, g := none, i := I.nt (O.t 15) }, { d := some 17, g := none, i := I.mv (O.t 16) },
              { d := some 18, g := some (17, false), i := I.mv (O.t 7) }, { d := some 19, g := some (17, false), i := I.mv (O.t 1) },
              { d := some 20, g := some (17, false), i := I.bin BinOp.gtr (O.t 18) (O.t 19) }, { d := some 21, g := none, i := I.pick (O.t 17) (O.k (Value.bool true)) (O.t 20) }])
          (S.cond (O.t 21)
            (S.seq (S.ops [{ d := some 22, g := none, i := I.mv (O.t 6) }, { d := some 4, g := none, i := I.mv (O.t 22) }, { d := some 5, g := none, i := I.mv (O.k (Value.bool false)) }]) S.ret)
            S.skip)))
      (S.seq
        (S.ops
          [{ d := some 23, g := none, i := I.mv (O.t 0) }, { d := some 24, g := none, i := I.nilc (O.t 23) }, { d := some 25, g := none, i := I.fad 0 (O.t 24) },
            { d := some 26, g := none, i := I.ld false 1 (O.t 25) }, { d := some 27, g := none, i := I.iad 3 0 (O.t 26) (O.k (Value.int IntKind.i64 (Int.ofNat 0))) },
            { d := some 28, g := none, i := I.fad 2 (O.t 27) }, { d := some 29, g := none, i := I.ld false 1 (O.t 28) }, { d := some 9, g := none, i := I.mv (O.t 29) }])
        (S.seq
          (S.ops
            [{ d := some 30, g := none, i := I.mv (O.t 0) }, { d := some 31, g := none, i := I.nilc (O.t 30) }, { d := some 32, g := none, i := I.fad 0 (O.t 31) },
              { d := some 33, g := none, i := I.mki 56 (O.t 32) }, { d := some 34, g := none, i := I.callm (O.f 25) [O.t 33] }])
          (S.seq (S.ops [{ d := some 35, g := none, i := I.mv (O.t 9) }, { d := some 4, g := none, i := I.mv (O.t 35) }, { d := some 5, g := none, i := I.mv (O.k (Value.bool true)) }]) S.ret)))))
theorem r11 : readFn Try.prog 11 h11 = some (s11, [RV.t 4, RV.t 5], 36) := by kernel_rfl

def h12 : Hint := { lent := [24, 25, 19, 12, 10, 11, 9] }
def s12 : S :=
  S.seq (S.ops [{ d := some 2, g := none, i := I.mv (O.k (Value.int IntKind.i64 (Int.ofNat 0))) }])
  (S.seq
    (S.seq (S.ops [{ d := some 3, g := none, i := I.mv (O.t 0) }, { d := some 4, g := none, i := I.eqn false (O.t 3) }])
      (S.cond (O.t 4) (S.seq (S.ops [{ d := some 2, g := none, i := I.mv (O.k (Value.int IntKind.i64 (Int.ofNat 0))) }]) S.ret) S.skip))
    (S.seq
      (S.ops
        [{ d := some 5, g := none, i := I.mv (O.t 0) }, { d := some 6, g := none, i := I.nilc (O.t 5) }, { d := some 7, g := none, i := I.fad 0 (O.t 6) },
          { d := some 8, g := none, i := I.ld false 1 (O.t 7) }, { d := some 9, g := none, i := I.len (O.t 8) }, { d := some 2, g := none, i := I.mv (O.t 9) }])
      S.ret))
theorem r12 : readFn Try.prog 12 h12 = some (s12, [RV.t 2], 10) := by kernel_rfl

def h19 : Hint := { lent := [24, 25, 19, 12, 10, 11, 9] }
def s19 : S :=
  S.seq (S.ops [{ d := some 2, g := none, i := I.mv (O.k (Value.int IntKind.i64 (Int.ofNat 0))) }, { d := some 3, g := none, i := I.mv (O.k (Value.bool false)) }])
  (S.seq
    (S.seq
      (S.ops
        [{ d := some 4, g := none, i := I.mv (O.t 0) }, { d := some 5, g := none, i := I.callm (O.f 12) [O.t 4] },
          { d := some 6, g := none, i := I.bin BinOp.eql (O.t 5) (O.k (Value.int IntKind.i64 (Int.ofNat 0))) }])
      (S.cond (O.t 6) (S.seq (S.ops [{ d := some 2, g := none, i := I.mv (O.k (Value.int IntKind.i64 (Int.ofNat 0))) }, { d := some 3, g := none, i := I.mv (O.k (Value.bool false)) }]) S.ret) S.skip))
    (S.seq
      (S.ops
        [{ d := some 7, g := none, i := I.mv (O.t 0) }, { d := some 8, g := none, i := I.nilc (O.t 7) }, { d := some 9, g := none, i := I.fad 0 (O.t 8) },
          { d := some 10, g := none, i := I.ld false 1 (O.t 9) }, { d := some 11, g := none, i := I.iad 3 0 (O.t 10) (O.k (Value.int IntKind.i64 (Int.ofNat 0))) },
          { d := some 12, g := none, i := I.fad 0 (O.t 11) }, { d := some 13, g := none, i := I.ld false 1 (O.t 12) }, { d := some 2, g := none, i := I.mv (O.t 13) },
          { d := some 3, g := none, i := I.mv (O.k (Value.bool true)) }])
      S.ret))
theorem r19 : readFn Try.prog 19 h19 = some (s19, [RV.t 2, RV.t 3], 14) := by kernel_rfl

def h8 : Hint := { lent := [24, 25, 19, 12, 10, 11, 9] }
def s8 : S :=
  S.seq (S.ops [{ d := some 0, g := none, i := I.mv (O.k (Value.bool false)) }])
  (S.seq (S.ops [{ d := some 8, g := none, i := I.callm (O.f 9) [] }, { d := some 1, g := none, i := I.mv (O.t 8) }])
    (S.seq
      (S.ops
        [{ d := some 9, g := none, i := I.mv (O.t 1) },
          { d := some 10, g := none, i := I.callm (O.f 10) [O.t 9, O.k (Value.int IntKind.i64 (Int.ofNat 5)), O.k (Value.int IntKind.i64 (Int.ofNat 1))] },
          { d := some 11, g := none, i := I.mv (O.t 1) },
          { d := some 12, g := none, i := I.callm (O.f 10) [O.t 11, O.k (Value.int IntKind.i64 (Int.ofNat 3)), O.k (Value.int IntKind.i64 (Int.ofNat 2))] },
          { d := some 2, g := none, i := I.mv (O.t 10) }, { d := some 3, g := none, i := I.mv (O.t 12) }])
      (S.seq
        (S.ops
          [{ d := some 14, g := none, i := I.mv (O.t 1) }, { d := some 15, g := none, i := I.callm (O.f 11) [O.t 14, O.k (Value.int IntKind.i64 (Int.ofNat 4))] },
            { d := some 13, g := none, i := I.mv (O.t 15) }, { d := some 16, g := none, i := I.ext (O.t 13) 0 }, { d := some 17, g := none, i := I.ext (O.t 13) 1 },
            { d := some 4, g := none, i := I.mv (O.t 16) }, { d := some 5, g := none, i := I.mv (O.t 17) }])
        (S.seq
          (S.ops
            [{ d := some 19, g := none, i := I.mv (O.t 1) }, { d := some 20, g := none, i := I.callm (O.f 11) [O.t 19, O.k (Value.int IntKind.i64 (Int.ofNat 4))] },
              { d := some 18, g := none, i := I.mv (O.t 20) }, { d := some 21, g := none, i := I.ext (O.t 18) 0 }, { d := some 22, g := none, i := I.ext (O.t 18) 1 },
              { d := some 6, g := none, i := I.mv (O.t 21) }, { d := some 7, g := none, i := I.mv (O.t 22) }])
          (S.seq
            (S.ops
              [{ d := some 23, g := none, i := I.mv (O.t 2) }, { d := some 24, g := none, i := I.bin BinOp.eql (O.t 23) (O.k (Value.int IntKind.i64 (Int.ofNat 0))) },
                { d := some 25, g := none, i := I.mv (O.t 24) }, { d := some 26, g := some (25, true), i := I.mv (O.t 3) },
                { d := some 27, g := some (25, true), i := I.bin BinOp.eql (O.t 26) (O.k (Value.int IntKind.i64 (Int.ofNat 0))) },
                { d := some 28, g := none, i := I.pick (O.t 25) (O.t 27) (O.k (Value.bool false)) }, { d := some 29, g := none, i := I.mv (O.t 28) },
                { d := some 30, g := some (29, true), i := I.mv (O.t 5) }, { d := some 31, g := none, i := I.pick (O.t 29) (O.t 30) (O.k (Value.bool false)) },
                { d := some 32, g := none, i := I.mv (O.t 31) }, { d := some 33, g := some (32, true), i := I.mv (O.t 4) },
                { d := some 34, g := some (32, true), i := I.bin BinOp.eql (O.t 33) (O.k (Value.int IntKind.i64 (Int.ofNat 2))) },
                { d := some 35, g := none, i := I.pick (O.t 32) (O.t 34) (O.k (Value.bool false)) }, { d := some 36, g := none, i := I.mv (O.t 35) },
                { d := some 37, g := some (36, true), i := I.mv (O.t 7) }, { d := some 38, g := some (36, true), i := I.nt (O.t 37) },
                { d := some 39, g := none, i := I.pick (O.t 36) (O.t 38) (O.k (Value.bool false)) }, { d := some 0, g := none, i := I.mv (O.t 39) }])
            S.ret)))))
theorem r8 : readFn Try.prog 8 h8 = some (s8, [RV.t 0], 40) := by kernel_rfl

def h3 : Hint := { lent := [24, 25, 19, 12, 10, 11, 9] }
def s3 : S :=
  S.seq (S.ops [{ d := some 2, g := none, i := I.mv (O.k (Value.bool false)) }])
  (S.seq
    (S.seq
      (S.ops
        [{ d := some 13, g := none, i := I.call (O.f 8) [] }, { d := some 14, g := none, i := I.nt (O.t 13) }, { d := some 15, g := none, i := I.mv (O.t 14) },
          { d := some 16, g := some (15, false), i := I.mv (O.t 0) }, { d := some 17, g := some (15, false), i := I.len (O.t 16) },
          { d := some 18, g := some (15, false), i := I.bin BinOp.gtr (O.t 17) (O.k (Value.int IntKind.i64 (Int.ofNat 300))) },
          { d := some 19, g := none, i := I.pick (O.t 15) (O.k (Value.bool true)) (O.t 18) }])
      (S.cond (O.t 19) (S.seq (S.ops [{ d := some 20, g := none, i := I.call (O.f 8) [] }, { d := some 2, g := none, i := I.mv (O.t 20) }]) S.ret) S.skip))
    (S.seq (S.ops [{ d := some 21, g := none, i := I.callm (O.f 9) [] }, { d := some 3, g := none, i := I.mv (O.t 21) }])
      (S.seq (S.ops [{ d := some 4, g := none, i := I.mv (O.k (Value.int IntKind.i64 (Int.ofNat 0))) }])
        (S.seq
          (S.seq
            (S.ops
              [{ d := some 22, g := none, i := I.mv (O.t 0) }, { d := some 23, g := none, i := I.len (O.t 22) }, { d := some 24, g := none, i := I.mv (O.k (Value.int IntKind.i64 (Int.ofNat 0))) }])
            (S.block 0
              (S.loop
                (S.seq (S.ops [{ d := some 25, g := none, i := I.bin BinOp.lss (O.t 24) (O.t 23) }])
                  (S.seq (S.cond (O.t 25) S.skip (S.exit 0))
                    (S.seq
                      (S.block 1
                        (S.seq
                          (S.ops
                            [{ d := some 26, g := none, i := I.mv (O.t 24) }, { d := some 27, g := none, i := I.iad 1 0 (O.t 22) (O.t 24) }, { d := some 28, g := none, i := I.ld false 1 (O.t 27) },
                              { d := some 5, g := none, i := I.mv (O.t 26) }, { d := some 6, g := none, i := I.mv (O.t 28) }])
                          (S.seq
                            (S.ops
                              [{ d := some 29, g := none, i := I.mv (O.t 3) }, { d := some 30, g := none, i := I.mv (O.t 6) }, { d := some 31, g := none, i := I.mv (O.t 5) },
                                { d := some 32, g := none, i := I.callm (O.f 10) [O.t 29, O.t 30, O.t 31] },
                                { d := some 33, g := none, i := I.bin BinOp.eql (O.t 32) (O.k (Value.int IntKind.i64 (Int.ofNat 0))) }])
                            (S.cond (O.t 33)
                              (S.ops
                                [{ d := some 34, g := none, i := I.mv (O.t 4) }, { d := some 35, g := none, i := I.bin BinOp.add (O.t 34) (O.k (Value.int IntKind.i64 (Int.ofNat 1))) },
                                  { d := some 4, g := none, i := I.mv (O.t 35) }])
                              S.skip))))
                      (S.ops [{ d := some 36, g := none, i := I.bin BinOp.add (O.t 24) (O.k (Value.int IntKind.i64 (Int.ofNat 1))) }, { d := some 24, g := none, i := I.mv (O.t 36) }])))))))
          (S.seq (S.ops [{ d := some 7, g := none, i := I.mv (O.k (Value.int IntKind.i64 (Int.negSucc 0))) }, { d := some 8, g := none, i := I.mv (O.k (Value.int IntKind.i64 (Int.negSucc 0))) }])
            (S.seq
              (S.seq (S.ops [{ d := some 37, g := none, i := I.mv (O.t 4) }, { d := some 38, g := none, i := I.mv (O.k (Value.int IntKind.i64 (Int.ofNat 0))) }])
                (S.block 2
                  (S.loop
                    (S.seq (S.ops [{ d := some 39, g := none, i := I.bin BinOp.lss (O.t 38) (O.t 37) }])
                      (S.seq (S.cond (O.t 39) S.skip (S.exit 2))
                        (S.seq
                          (S.block 3
                            (S.seq
                              (S.ops
                                [{ d := some 41, g := none, i := I.mv (O.t 3) }, { d := some 42, g := none, i := I.callm (O.f 11) [O.t 41, O.k (Value.int IntKind.i64 (Int.ofNat 1099511627776))] },
                                  { d := some 40, g := none, i := I.mv (O.t 42) }, { d := some 43, g := none, i := I.ext (O.t 40) 0 }, { d := some 44, g := none, i := I.ext (O.t 40) 1 },
                                  { d := some 9, g := none, i := I.mv (O.t 43) }, { d := some 10, g := none, i := I.mv (O.t 44) }])
                              (S.seq
                                (S.seq
                                  (S.ops
                                    [{ d := some 45, g := none, i := I.mv (O.t 10) }, { d := some 46, g := none, i := I.nt (O.t 45) }, { d := some 47, g := none, i := I.mv (O.t 46) },
                                      { d := some 48, g := some (47, false), i := I.mv (O.t 0) }, { d := some 49, g := some (47, false), i := I.mv (O.t 9) },
                                      { d := some 50, g := some (47, false), i := I.iad 1 0 (O.t 48) (O.t 49) }, { d := some 51, g := some (47, false), i := I.ld false 1 (O.t 50) },
                                      { d := some 52, g := some (47, false), i := I.mv (O.t 7) }, { d := some 53, g := some (47, false), i := I.bin BinOp.lss (O.t 51) (O.t 52) },
                                      { d := some 54, g := none, i := I.pick (O.t 47) (O.k (Value.bool true)) (O.t 53) }, { d := some 55, g := none, i := I.mv (O.t 54) },
                                      { d := some 56, g := some (55, false), i := I.mv (O.t 0) }, { d := some 57, g := some (55, false), i := I.mv (O.t 9) },
                                      { d := some 58, g := some (55, false), i := I.iad 1 0 (O.t 56) (O.t 57) }, { d := some 59, g := some (55, false), i := I.ld false 1 (O.t 58) },
                                      { d := some 60, g := some (55, false), i := I.mv (O.t 7) }, { d := some 61, g := some (55, false), i := I.bin BinOp.eql (O.t 59) (O.t 60) },
                                      { d := some 62, g := some (55, false), i := I.mv (O.t 61) }, { d := some 63, g := some (62, true), i := I.mv (O.t 9) },
                                      { d := some 64, g := some (62, true), i := I.mv (O.t 8) }, { d := some 65, g := some (62, true), i := I.bin BinOp.leq (O.t 63) (O.t 64) },
                                      { d := some 66, g := some (55, false), i := I.pick (O.t 62) (O.t 65) (O.k (Value.bool false)) },
                                      { d := some 67, g := none, i := I.pick (O.t 55) (O.k (Value.bool true)) (O.t 66) }])
                                  (S.cond (O.t 67) (S.seq (S.ops [{ d := some 2, g := none, i := I.mv (O.k (Value.bool false)) }]) S.ret) S.skip))
                                (S.ops
                                  [{ d := some 68, g := none, i := I.mv (O.t 0) }, { d := some 69, g := none, i := I.mv (O.t 9) }, { d := some 70, g := none, i := I.iad 1 0 (O.t 68) (O.t 69) },
                                    { d := some 71, g := none, i := I.ld false 1 (O.t 70) }, { d := some 72, g := none, i := I.mv (O.t 9) }, { d := some 7, g := none, i := I.mv (O.t 71) },
                                    { d := some 8, g := none, i := I.mv (O.t 72) }]))))
                          (S.ops [{ d := some 73, g := none, i := I.bin BinOp.add (O.t 38) (O.k (Value.int IntKind.i64 (Int.ofNat 1))) }, { d := some 38, g := none, i := I.mv (O.t 73) }])))))))
              (S.seq
                (S.ops
                  [{ d := some 75, g := none, i := I.mv (O.t 3) }, { d := some 76, g := none, i := I.callm (O.f 11) [O.t 75, O.k (Value.int IntKind.i64 (Int.ofNat 1099511627776))] },
                    { d := some 74, g := none, i := I.mv (O.t 76) }, { d := some 77, g := none, i := I.ext (O.t 74) 0 }, { d := some 78, g := none, i := I.ext (O.t 74) 1 },
                    { d := some 11, g := none, i := I.mv (O.t 77) }, { d := some 12, g := none, i := I.mv (O.t 78) }])
                (S.seq
                  (S.ops
                    [{ d := some 79, g := none, i := I.mv (O.t 12) }, { d := some 80, g := none, i := I.nt (O.t 79) }, { d := some 81, g := none, i := I.mv (O.t 80) },
                      { d := some 82, g := some (81, true), i := I.mv (O.t 3) }, { d := some 83, g := some (81, true), i := I.callm (O.f 12) [O.t 82] },
                      { d := some 84, g := some (81, true), i := I.bin BinOp.eql (O.t 83) (O.k (Value.int IntKind.i64 (Int.ofNat 0))) },
                      { d := some 85, g := none, i := I.pick (O.t 81) (O.t 84) (O.k (Value.bool false)) }, { d := some 2, g := none, i := I.mv (O.t 85) }])
                  S.ret))))))))
theorem r3 : readFn Try.prog 3 h3 = some (s3, [RV.t 2], 86) := by kernel_rfl

def h4 : Hint := { lent := [24, 25, 19, 12, 10, 11, 9] }
def s4 : S :=
  S.seq (S.ops [{ d := some 4, g := none, i := I.mv (O.k (Value.bool false)) }])
  (S.seq
    (S.seq
      (S.ops
        [{ d := some 14, g := none, i := I.call (O.f 8) [] }, { d := some 15, g := none, i := I.nt (O.t 14) }, { d := some 16, g := none, i := I.mv (O.t 15) },
          { d := some 17, g := some (16, false), i := I.mv (O.t 0) }, { d := some 18, g := some (16, false), i := I.len (O.t 17) },
          { d := some 19, g := some (16, false), i := I.bin BinOp.gtr (O.t 18) (O.k (Value.int IntKind.i64 (Int.ofNat 300))) },
          { d := some 20, g := none, i := I.pick (O.t 16) (O.k (Value.bool true)) (O.t 19) }])
      (S.cond (O.t 20) (S.seq (S.ops [{ d := some 21, g := none, i := I.call (O.f 8) [] }, { d := some 4, g := none, i := I.mv (O.t 21) }]) S.ret) S.skip))
    (S.seq (S.ops [{ d := some 22, g := none, i := I.callm (O.f 9) [] }, { d := some 5, g := none, i := I.mv (O.t 22) }])
      (S.seq (S.ops [{ d := some 6, g := none, i := I.mv (O.k (Value.int IntKind.i64 (Int.ofNat 0))) }, { d := some 7, g := none, i := I.mv (O.k (Value.int IntKind.i64 (Int.ofNat 0))) }])
        (S.seq
          (S.seq
            (S.ops
              [{ d := some 23, g := none, i := I.mv (O.t 0) }, { d := some 24, g := none, i := I.len (O.t 23) }, { d := some 25, g := none, i := I.mv (O.k (Value.int IntKind.i64 (Int.ofNat 0))) }])
            (S.block 0
              (S.loop
                (S.seq (S.ops [{ d := some 26, g := none, i := I.bin BinOp.lss (O.t 25) (O.t 24) }])
                  (S.seq (S.cond (O.t 26) S.skip (S.exit 0))
                    (S.seq
                      (S.block 1
                        (S.seq
                          (S.ops
                            [{ d := some 27, g := none, i := I.mv (O.t 25) }, { d := some 28, g := none, i := I.iad 1 0 (O.t 23) (O.t 25) }, { d := some 29, g := none, i := I.ld false 1 (O.t 28) },
                              { d := some 8, g := none, i := I.mv (O.t 27) }, { d := some 9, g := none, i := I.mv (O.t 29) }])
                          (S.seq
                            (S.seq
                              (S.ops
                                [{ d := some 30, g := none, i := I.mv (O.t 5) }, { d := some 31, g := none, i := I.mv (O.t 9) }, { d := some 32, g := none, i := I.mv (O.t 8) },
                                  { d := some 33, g := none, i := I.callm (O.f 10) [O.t 30, O.t 31, O.t 32] },
                                  { d := some 34, g := none, i := I.bin BinOp.neq (O.t 33) (O.k (Value.int IntKind.i64 (Int.ofNat 0))) }])
                              (S.cond (O.t 34) (S.exit 1) S.skip))
                            (S.seq
                              (S.ops
                                [{ d := some 35, g := none, i := I.mv (O.t 7) }, { d := some 36, g := none, i := I.bin BinOp.add (O.t 35) (O.k (Value.int IntKind.i64 (Int.ofNat 1))) },
                                  { d := some 7, g := none, i := I.mv (O.t 36) }])
                              (S.seq
                                (S.ops
                                  [{ d := some 37, g := none, i := I.mv (O.t 9) }, { d := some 38, g := none, i := I.mv (O.t 1) }, { d := some 39, g := none, i := I.bin BinOp.leq (O.t 37) (O.t 38) }])
                                (S.cond (O.t 39)
                                  (S.ops
                                    [{ d := some 40, g := none, i := I.mv (O.t 6) }, { d := some 41, g := none, i := I.bin BinOp.add (O.t 40) (O.k (Value.int IntKind.i64 (Int.ofNat 1))) },
                                      { d := some 6, g := none, i := I.mv (O.t 41) }])
                                  S.skip))))))
                      (S.ops [{ d := some 42, g := none, i := I.bin BinOp.add (O.t 25) (O.k (Value.int IntKind.i64 (Int.ofNat 1))) }, { d := some 25, g := none, i := I.mv (O.t 42) }])))))))
          (S.seq
            (S.seq (S.ops [{ d := some 43, g := none, i := I.mv (O.t 6) }, { d := some 44, g := none, i := I.mv (O.k (Value.int IntKind.i64 (Int.ofNat 0))) }])
              (S.block 2
                (S.loop
                  (S.seq (S.ops [{ d := some 45, g := none, i := I.bin BinOp.lss (O.t 44) (O.t 43) }])
                    (S.seq (S.cond (O.t 45) S.skip (S.exit 2))
                      (S.seq
                        (S.block 3
                          (S.seq
                            (S.ops
                              [{ d := some 47, g := none, i := I.mv (O.t 5) }, { d := some 48, g := none, i := I.mv (O.t 1) }, { d := some 49, g := none, i := I.callm (O.f 11) [O.t 47, O.t 48] },
                                { d := some 46, g := none, i := I.mv (O.t 49) }, { d := some 50, g := none, i := I.ext (O.t 46) 0 }, { d := some 51, g := none, i := I.ext (O.t 46) 1 },
                                { d := some 10, g := none, i := I.mv (O.t 50) }, { d := some 11, g := none, i := I.mv (O.t 51) }])
                            (S.seq
                              (S.ops
                                [{ d := some 52, g := none, i := I.mv (O.t 11) }, { d := some 53, g := none, i := I.nt (O.t 52) }, { d := some 54, g := none, i := I.mv (O.t 53) },
                                  { d := some 55, g := some (54, false), i := I.mv (O.t 0) }, { d := some 56, g := some (54, false), i := I.mv (O.t 10) },
                                  { d := some 57, g := some (54, false), i := I.iad 1 0 (O.t 55) (O.t 56) }, { d := some 58, g := some (54, false), i := I.ld false 1 (O.t 57) },
                                  { d := some 59, g := some (54, false), i := I.mv (O.t 1) }, { d := some 60, g := some (54, false), i := I.bin BinOp.gtr (O.t 58) (O.t 59) },
                                  { d := some 61, g := none, i := I.pick (O.t 54) (O.k (Value.bool true)) (O.t 60) }])
                              (S.cond (O.t 61) (S.seq (S.ops [{ d := some 4, g := none, i := I.mv (O.k (Value.bool false)) }]) S.ret) S.skip))))
                        (S.ops [{ d := some 62, g := none, i := I.bin BinOp.add (O.t 44) (O.k (Value.int IntKind.i64 (Int.ofNat 1))) }, { d := some 44, g := none, i := I.mv (O.t 62) }])))))))
            (S.seq
              (S.ops
                [{ d := some 64, g := none, i := I.mv (O.t 5) }, { d := some 65, g := none, i := I.mv (O.t 1) }, { d := some 66, g := none, i := I.callm (O.f 11) [O.t 64, O.t 65] },
                  { d := some 63, g := none, i := I.mv (O.t 66) }, { d := some 67, g := none, i := I.ext (O.t 63) 0 }, { d := some 68, g := none, i := I.ext (O.t 63) 1 },
                  { d := some 12, g := none, i := I.mv (O.t 67) }, { d := some 13, g := none, i := I.mv (O.t 68) }])
              (S.seq
                (S.ops
                  [{ d := some 69, g := none, i := I.mv (O.t 13) }, { d := some 70, g := none, i := I.nt (O.t 69) }, { d := some 71, g := none, i := I.mv (O.t 70) },
                    { d := some 72, g := some (71, true), i := I.mv (O.t 5) }, { d := some 73, g := some (71, true), i := I.callm (O.f 12) [O.t 72] },
                    { d := some 74, g := some (71, true), i := I.mv (O.t 7) }, { d := some 75, g := some (71, true), i := I.mv (O.t 6) },
                    { d := some 76, g := some (71, true), i := I.bin BinOp.sub (O.t 74) (O.t 75) }, { d := some 77, g := some (71, true), i := I.bin BinOp.eql (O.t 73) (O.t 76) },
                    { d := some 78, g := none, i := I.pick (O.t 71) (O.t 77) (O.k (Value.bool false)) }, { d := some 4, g := none, i := I.mv (O.t 78) }])
                S.ret)))))))
theorem r4 : readFn Try.prog 4 h4 = some (s4, [RV.t 4], 79) := by kernel_rfl

def h5 : Hint := { lent := [24, 25, 19, 12, 10, 11, 9] }
def s5 : S :=
  S.seq (S.ops [{ d := some 2, g := none, i := I.mv (O.k (Value.bool false)) }])
  (S.seq
    (S.seq
      (S.ops
        [{ d := some 7, g := none, i := I.call (O.f 8) [] }, { d := some 8, g := none, i := I.nt (O.t 7) }, { d := some 9, g := none, i := I.mv (O.t 8) },
          { d := some 10, g := some (9, false), i := I.mv (O.t 0) }, { d := some 11, g := some (9, false), i := I.bin BinOp.lss (O.t 10) (O.k (Value.int IntKind.i64 (Int.ofNat 0))) },
          { d := some 12, g := none, i := I.pick (O.t 9) (O.k (Value.bool true)) (O.t 11) }, { d := some 13, g := none, i := I.mv (O.t 12) },
          { d := some 14, g := some (13, false), i := I.mv (O.t 0) }, { d := some 15, g := some (13, false), i := I.bin BinOp.gtr (O.t 14) (O.k (Value.int IntKind.i64 (Int.ofNat 1099511627776))) },
          { d := some 16, g := none, i := I.pick (O.t 13) (O.k (Value.bool true)) (O.t 15) }])
      (S.cond (O.t 16) (S.seq (S.ops [{ d := some 17, g := none, i := I.call (O.f 8) [] }, { d := some 2, g := none, i := I.mv (O.t 17) }]) S.ret) S.skip))
    (S.seq (S.ops [{ d := some 18, g := none, i := I.callm (O.f 9) [] }, { d := some 3, g := none, i := I.mv (O.t 18) }])
      (S.seq
        (S.seq (S.ops [{ d := some 19, g := none, i := I.mv (O.k (Value.int IntKind.i64 (Int.ofNat 0))) }])
          (S.block 0
            (S.loop
              (S.seq (S.ops [{ d := some 20, g := none, i := I.bin BinOp.lss (O.t 19) (O.k (Value.int IntKind.i64 (Int.ofNat 4096))) }])
                (S.seq (S.cond (O.t 20) S.skip (S.exit 0))
                  (S.seq
                    (S.block 1
                      (S.seq (S.ops [{ d := some 21, g := none, i := I.mv (O.t 19) }, { d := some 4, g := none, i := I.mv (O.t 21) }])
                        (S.seq
                          (S.ops
                            [{ d := some 22, g := none, i := I.mv (O.t 3) }, { d := some 23, g := none, i := I.mv (O.t 0) }, { d := some 24, g := none, i := I.mv (O.t 4) },
                              { d := some 25, g := none, i := I.callm (O.f 10) [O.t 22, O.t 23, O.t 24] },
                              { d := some 26, g := none, i := I.bin BinOp.neq (O.t 25) (O.k (Value.int IntKind.i64 (Int.ofNat 0))) }])
                          (S.cond (O.t 26) (S.seq (S.ops [{ d := some 2, g := none, i := I.mv (O.k (Value.bool false)) }]) S.ret) S.skip))))
                    (S.ops [{ d := some 27, g := none, i := I.bin BinOp.add (O.t 19) (O.k (Value.int IntKind.i64 (Int.ofNat 1))) }, { d := some 19, g := none, i := I.mv (O.t 27) }])))))))
        (S.seq
          (S.seq
            (S.ops
              [{ d := some 28, g := none, i := I.mv (O.t 3) }, { d := some 29, g := none, i := I.mv (O.t 0) },
                { d := some 30, g := none, i := I.callm (O.f 10) [O.t 28, O.t 29, O.k (Value.int IntKind.i64 (Int.ofNat 1))] },
                { d := some 31, g := none, i := I.bin BinOp.neq (O.t 30) (O.k (Value.int IntKind.i64 (Int.ofNat 4))) }, { d := some 32, g := none, i := I.mv (O.t 31) },
                { d := some 33, g := some (32, false), i := I.mv (O.t 3) }, { d := some 34, g := some (32, false), i := I.callm (O.f 12) [O.t 33] },
                { d := some 35, g := some (32, false), i := I.bin BinOp.neq (O.t 34) (O.k (Value.int IntKind.i64 (Int.ofNat 4096))) },
                { d := some 36, g := none, i := I.pick (O.t 32) (O.k (Value.bool true)) (O.t 35) }])
            (S.cond (O.t 36) (S.seq (S.ops [{ d := some 2, g := none, i := I.mv (O.k (Value.bool false)) }]) S.ret) S.skip))
          (S.seq
            (S.ops
              [{ d := some 38, g := none, i := I.mv (O.t 3) }, { d := some 39, g := none, i := I.mv (O.t 0) }, { d := some 40, g := none, i := I.callm (O.f 11) [O.t 38, O.t 39] },
                { d := some 37, g := none, i := I.mv (O.t 40) }, { d := some 41, g := none, i := I.ext (O.t 37) 0 }, { d := some 42, g := none, i := I.ext (O.t 37) 1 },
                { d := some 5, g := none, i := I.mv (O.t 41) }, { d := some 6, g := none, i := I.mv (O.t 42) }])
            (S.seq
              (S.ops
                [{ d := some 43, g := none, i := I.mv (O.t 6) }, { d := some 44, g := none, i := I.mv (O.t 43) }, { d := some 45, g := some (44, true), i := I.mv (O.t 5) },
                  { d := some 46, g := some (44, true), i := I.bin BinOp.eql (O.t 45) (O.k (Value.int IntKind.i64 (Int.ofNat 0))) },
                  { d := some 47, g := none, i := I.pick (O.t 44) (O.t 46) (O.k (Value.bool false)) }, { d := some 48, g := none, i := I.mv (O.t 47) },
                  { d := some 49, g := some (48, true), i := I.mv (O.t 3) }, { d := some 50, g := some (48, true), i := I.mv (O.t 0) },
                  { d := some 51, g := some (48, true), i := I.callm (O.f 10) [O.t 49, O.t 50, O.k (Value.int IntKind.i64 (Int.ofNat 1))] },
                  { d := some 52, g := some (48, true), i := I.bin BinOp.eql (O.t 51) (O.k (Value.int IntKind.i64 (Int.ofNat 0))) },
                  { d := some 53, g := none, i := I.pick (O.t 48) (O.t 52) (O.k (Value.bool false)) }, { d := some 2, g := none, i := I.mv (O.t 53) }])
              S.ret))))))
theorem r5 : readFn Try.prog 5 h5 = some (s5, [RV.t 2], 54) := by kernel_rfl

def h9 : Hint := { post := [(1, [.nilb (.t 2) 0 1 58])] }
def s9 : S :=
  S.seq (S.ops [{ d := some 0, g := none, i := I.mv (O.k (Value.pointer none)) }])
  (S.seq
    (S.seq (S.ops [{ d := some 1, g := none, i := I.build 54 [] }, { d := some 2, g := none, i := I.box 54 (O.t 1) }, { d := some 0, g := none, i := I.mv (O.t 2) }]) (S.nilb (O.t 2) 0 1 58 S.skip))
    S.ret)
theorem r9 : readFn Try.prog 9 h9 = some (s9, [RV.t 0], 3) := by kernel_rfl

end Go.Sy
