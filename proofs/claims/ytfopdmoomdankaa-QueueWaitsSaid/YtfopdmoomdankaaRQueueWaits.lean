/- Whatever the dues and the time, QueueWaits answers true, and they read as they did. No condition. -/
import Derived.Test.YtfopdmoomdankaaQRow
import Derived.Test.YtfopdmoomdankaaQWai
set_option linter.unusedVariables false
set_option linter.unusedSimpArgs false
namespace Go.Proofs.Ytfopdmoomdankaa.queueWaits
open Go.ChangeShapes Go.WideShapes Go.ChangeAt Go.RowKit Go.Sy

theorem own : ownKnob Try.prog.godebug = none := by kernel_rfl
theorem laidOut : laidOutB Try.prog = true := by kernel_rfl
theorem okTs : (Try.f4.params.toList.all (okT Try.prog)) = true := by kernel_rfl
theorem cells3 : Try.prog.cellsOf 3 = 1 := by kernel_rfl

set_option maxRecDepth 100000 in
theorem lifted (os : Os) (started : os.Started) (H : Type) (enc : TypeId × Value → H) :
    ReturnsInHanded {} Try.checked os 4 .any (Rows.queueWaitsSpec.pre6 enc Try.prog Try.f4 Rows.queueWaitsRow.domain false) (Rows.queueWaitsSpec.post enc Try.prog Try.f4 false true false false) := by
  refine returnsInHanded_of_change (C := Try.checked) own started (by kernel_rfl) Try.func4
    (ChangeSpec.witness6 (enc := enc) (C := Try.checked) false ⟨#[], #[.slice none 0 0, .int .i64 0], []⟩ 8 (by kernel_rfl) (by kernel_rfl) (by kernel_rfl) (by kernel_rfl)) ?_
  intro W base args ds gs before hval0 hW hcnd _
  have hval : ∀ (j : Nat) t v, Try.f4.params[j]? = some t → args[j]? = some v → Value.okWide Try.prog W .any base t v := hval0
  have hW' := hW
  obtain ⟨p, q, hA0, hV, rfl, hfz, hnd⟩ := hW
  have hA : DataW.TrodAll enc Try.prog W 0 (fun _ => true) true Try.f4.params.toList args.toList ds p := hA0
  have hS := hA
  obtain ⟨rfl, rfl⟩ := trodVars_none hV
  have hlt : ∀ x ∈ p, x.block < W.heap.size := fun x hx => hW'.lt x (by simpa using hx)
  rw [Try.params4] at hA hval
  obtain ⟨v0, vs0, d0, ds0, p0, q0, hargs, rfl, rfl, h0, r0⟩ := trodAll_cons hA
  obtain ⟨v1, vs1, d1, ds1, p1, q1, rfl, rfl, rfl, h1, r1⟩ := trodAll_cons r0
  obtain ⟨rfl, rfl, rfl⟩ := trodAll_nil r1
  obtain rfl : args = #[v0, v1] := by cases args; simp_all
  obtain ⟨aa0, len0, cap0, rfl⟩ := okWide_slice Try.underlying22 (hval 0 22 v0 rfl rfl)
  have him0 : ∃ l : List Int, RB (domq Hid0).toDom (fun _ => none) (fun _ => True) W (.c (.im (.ints l))) (.slice aa0 len0 cap0) := by
    obtain ⟨fu, hf⟩ := h0
    rcases open_ints Try.underlying22 Try.underlying3 cells3 hf with ⟨hcs, hx⟩ | ⟨ad, ln, cp, zs, hcs, hb, hl, hm, hz, hx, hc, hw⟩
    · simp [Value.cells] at hcs
      obtain ⟨rfl, rfl, rfl⟩ := hcs
      exact ⟨[], rb_ints_nil⟩
    · simp [Value.cells] at hcs
      obtain ⟨rfl, rfl, rfl⟩ := hcs
      exact ⟨_, rb_ints hl hm (by rw [hz]; simp; omega) hc⟩
  obtain ⟨a0, him0⟩ := him0
  obtain ⟨a1, rfl, hd1, hp1, w1⟩ := open_int Try.underlying3 (hval 1 3 v1 rfl rfl) h1
  refine (law_call Hid0 (m4 Hid0) (args := [.c (.im (.ints a0)), .c (.v (.int .i64 a1))]) rfl rfl trivial (rbs_cons him0 (rbs_cons (rb_int _) rbs_nil))).mono fun e W' ⟨he, hg⟩ => ?_
  subst he
  exact ⟨_, rfl, post_of_keep (pv := []) hW' (fun _ _ _ => (trodAll_cons_mk (shut_bool Try.underlying4 _) trodAll_mk0)) (fun sp hsp => by
    have h9 := trodAll_stays (sp := sp) laidOut hg okTs hS hlt (fun x hx => hsp x (by simpa using hx))
    simp only [List.append_nil] at h9 ⊢
    exact h9) (fun _ _ => rfl) (by simp) hg (ok_one (by kernel_rfl) rfl (okWide_bool_mk Try.underlying4 _))⟩

theorem over : Rows.queueWaitsRow.holds Try.pinned (OpenSpec.ofChange Rows.queueWaitsSpec) :=
  OpenClaim.holds_of_wide 4 Try.f4 rfl rfl rfl rfl rfl rfl rfl ⟨rfl, rfl, rfl, rfl, rfl⟩ rfl rfl rfl rfl rfl (by kernel_rfl) Try.func4 (by kernel_rfl)
    (of_decide_eq_true (by kernel_rfl)) (by unfold Func.isWrapper; first | (rw [if_pos (by decide +kernel)]; kernel_rfl) | (rw [if_neg (by decide +kernel)]; exact ⟨rfl, rfl⟩))
    (fun os started H enc _ => lifted os started H enc)

/-- The statement. -/
theorem proved : Rows.QueueWaitsSaid := over
#print axioms proved
end Go.Proofs.Ytfopdmoomdankaa.queueWaits
