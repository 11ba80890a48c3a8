/- The chapter's example: lives() is true. -/
import Derived.Test.YtfopdmoomdankaaQMeth
set_option linter.unusedVariables false
set_option linter.unusedSimpArgs false
namespace Go.Sy
open Go Go.Proofs Go.Q

def Hid0 : Hide := ⟨fun f => f (), fun _ => rfl⟩
theorem hide_id (N : Hide) : N = Hid0 := by
  obtain ⟨th, eq⟩ := N
  have : @th = @(fun {α : Type} (f : Unit → α) => f ()) := by
    funext α f; exact eq f
  subst this
  rfl
def Strue (N : Hide) : Sp Kq := { ar := 0, nk := [], f := fun l => match l with | [] => some (N.th fun _ => True, .b (.c (.v (.bool true)))) | _ => none }
theorem m8 (N : Hide) : Meets Try.prog (domq N).toDom 8 (Strue N) := by
  obtain rfl := hide_id N
  refine meets_of Hid0 [(9, S9 Hid0), (10, S10 Hid0), (11, S11 Hid0)] mixq (okq Hid0) (reg_cons (m9 Hid0) (reg_cons (m10 Hid0) (reg_cons (m11 Hid0) reg_nil))) r8 (fun _ _ => rfl) rfl rfl (fun k h => by simp [Strue] at h) fun args pre r hl hs hp => ?_
  unfold Strue at hs
  dsimp only at hs
  split at hs
  · injection hs with hs; injection hs with e1 e2; subst e1; subst e2
    cbv
  · cases hs
end Go.Sy
