/- From a contract to the statement. -/
import Derived.Test.YtfopdmoomdankaaRows
import Derived.WalkKit
import Derived.ProofKit
import Derived.OpenShut
import Derived.Below
import Derived.ChangeSame
import Derived.ChangeSlices
import Derived.Carry
import Derived.Test.YtfopdmoomdankaaQLives
set_option linter.unusedVariables false
set_option linter.unusedSimpArgs false
namespace Go.Sy
open Go Go.Proofs Go.Q Go.RowKit Go.WideShapes Go.ChangeShapes

section
variable {H : Type} {enc : TypeId × Value → H} {P : Program}
theorem post_of_keep {f : Func} {s : ChangeSpec} {apart fresh handsOn again : Bool} {W W' : World} {args : Array Value} {v : Value} {ds gs : List (DataW H)} {before pa pv : List MemPlace}
    (hW : DataW.Whole enc P f.params.toList s.vars apart W args.toList ds gs before)
    (hres : ∀ (b : Nat) (sp : Nat → Bool) (hd : Bool), DataW.TrodAll enc P W' b sp hd f.resultTypes.toList (v.resultList f.resultTypes.size) (s.fn H (ds ++ gs)).results [])
    (hargs : ∀ sp : Nat → Bool, (∀ p ∈ before, sp p.block = true) → DataW.TrodAll enc P W' 0 sp true f.params.toList args.toList (s.fn H (ds ++ gs)).args pa)
    (hvars : ∀ sp : Nat → Bool, (∀ p ∈ before, sp p.block = true) → DataW.TrodVars enc P W' sp s.vars (s.fn H (ds ++ gs)).vars pv)
    (hps : before = pa ++ pv) (hk : Keep (fun _ => False) W W')
    (hok : ∀ (j : Nat) (t : TypeId) (r : Value), f.resultTypes[j]? = some t → (v.resultList f.resultTypes.size)[j]? = some r → Value.okWide P W' .any 0 t r) :
    s.post enc P f apart fresh handsOn again W args v W' := by
  have hb : Below W.heap.size W W' := ⟨hk.os, hk.tape, hk.output, hk.size, fun k hlt => hk.block k hlt fun f => f⟩
  have hlt : ∀ p ∈ before, p.block < W.heap.size := fun p hp => hW.lt p hp
  have hold : ∀ p ∈ before, (fun b => decide (b < W.heap.size)) p.block = true := fun p hp => by simpa using hlt p hp
  refine ⟨ds, gs, before, [], pa, pv, hW, hres _ _ _, hargs _ hold, hvars _ hold, World.keptBut_mono (fun p hp => ⟨hp, ?_⟩) (hb.frame (· ∈ before)), fun _ => ?_⟩
  · rw [hps, List.mem_append] at hp
    exact Or.inr hp
  · obtain ⟨_, _, _, _, _, hz, hn⟩ := hW
    refine ⟨hok, _, _, ([] ++ pa) ++ pv, ⟨[] ++ pa, pv, trodAll_append (hargs _ (fun _ _ => rfl)) (hres _ _ _), hvars _ (fun _ _ => rfl), rfl, ?_, ?_⟩, ?_⟩
    · intro b off hp
      have hin : MemPlace.cell b off ∈ before := by rw [hps]; simpa using hp
      rw [hb.frozen (hlt _ hin)]
      exact hz b off hin
    · intro ha
      have := hn ha
      rw [hps] at this
      simpa using this
    · intro p hp _
      rw [hps]
      simpa using hp
end

/-- What came in reads as it did. -/
def okT (P : Program) (t : TypeId) : Bool := P.readableRec t && decide (t < P.types.size)
theorem trodAll_stays {H : Type} {enc : TypeId × Value → H} {P : Program} (hl : laidOutB P = true) {W W' : World} (hk : Keep (fun _ => False) W W') {sp : Nat → Bool} : ∀ {ts : List TypeId} {vs : List Value} {ds : List (DataW H)} {ps : List MemPlace},
    ts.all (okT P) = true → DataW.TrodAll enc P W 0 (fun _ => true) true ts vs ds ps → (∀ x ∈ ps, x.block < W.heap.size) → (∀ x ∈ ps, sp x.block = true) → DataW.TrodAll enc P W' 0 sp true ts vs ds ps
  | [], [], [], ps, _, h, _, _ => h
  | t :: ts, vs, ds, ps, ht, h, hlt, hsp => by
    obtain ⟨v, vs', d, ds', p, q, rfl, rfl, rfl, h1, h2⟩ := trodAll_cons h
    rw [List.all_cons, Bool.and_eq_true] at ht
    obtain ⟨ht1, ht2⟩ := ht
    simp only [okT, Bool.and_eq_true] at ht1
    have hb : Below W.heap.size W W' := ⟨hk.os, hk.tape, hk.output, hk.size, fun k hlt => hk.block k hlt fun f => f⟩
    exact ⟨p, q, WideElems.Trod_stays hl ht1.1 (of_decide_eq_true ht1.2) h1 (fun x hx => hb.same (hlt x (by simp [hx]))) (fun x hx => hsp x (by simp [hx])),
      trodAll_stays hl hk ht2 h2 (fun x hx => hlt x (by simp [hx])) (fun x hx => hsp x (by simp [hx])), rfl⟩
theorem cells_slice {v : Value} {a : Option Addr} {n c : Nat} (h : v.cells.toList = [.slice a n c]) (ho : v.oneCell' = true) : v = .slice a n c := by
  cases v <;> simp_all [Value.cells, Value.oneCell']

/-- A law's contract, as a call. -/
theorem law_call {f : Nat} {S : Sp Kq} (N : Hide) (hm : Meets Try.prog (domq N).toDom f S) {args : List (B Kq)} {pre : Prop} {b : Bool} (hl : args.length = S.ar) (hs : S.f args = some (pre, .b (.c (.v (.bool b))))) (hp : pre)
    {w : World} {vals : List Value} (hr : RBs (domq N).toDom (fun _ => True) w args vals) : Calls Try.prog f vals.toArray w fun e w' => e = .returned (.bool b) ∧ Keep (fun _ => False) w w' := by
  refine (hm.2.2.1 args pre _ hl hs hp (fun _ => True) w vals hr).mono fun e w' ⟨v, he, hk, hra⟩ => ⟨?_, hk⟩
  obtain ⟨n, hn⟩ := hra
  have : v = .bool b := by cases n <;> exact hn.1
  rw [he, this]

theorem rbs_nil {D : Dom Kq} {ok : Nat → Prop} {w : World} : RBs D ok w [] [] := ⟨rfl, fun j x h => by simp at h⟩
theorem rbs_cons {D : Dom Kq} {ok : Nat → Prop} {w : World} {x : B Kq} {y : Value} {xs : List (B Kq)} {ys : List Value} (h : RB D (fun _ => none) ok w x y) (hs : RBs D ok w xs ys) : RBs D ok w (x :: xs) (y :: ys) := by
  refine ⟨by simp [hs.1], fun j z hz => ?_⟩
  cases j with
  | zero => simp at hz; subst hz; exact ⟨y, rfl, h⟩
  | succ j => simpa using hs.2 j z (by simpa using hz)
theorem rb_int {D : Dom Kq} {ok : Nat → Prop} {w : World} {k : IntKind} (n : Int) : RB D (fun _ => none) ok w (.c (.v (.int k n))) (.int k n) := ⟨0, rfl, rfl⟩
/-- Integers that came in. -/
theorem rb_ints {N : Hide} {w : World} {a : Addr} {len cap : Nat} {zs : List Int} (h1 : len ≤ cap) (h2 : cap ≤ maxLen) (h3 : len ≤ zs.length) (hc : ∀ i, i < zs.length → w.cell? (a.add i) = some (.int .i64 (zs.getD i 0))) :
    RB (domq N).toDom (fun _ => none) (fun _ => True) w (.c (.im (.ints (zs.take len)))) (.slice (some a) len cap) := by
  have hlen : (zs.take len).length = len := by simp; omega
  refine ⟨1, trivial, ⟨some a, cap, ?_, ?_, h2⟩, ?_⟩
  · show _ = Value.slice (some a) (zs.take len).length cap
    rw [hlen]
  · show (zs.take len).length ≤ cap
    rw [hlen]; exact h1
  · by_cases h0 : len = 0
    · left
      show (zs.take len).length = 0
      rw [hlen]; exact h0
    · right
      have hc0 := hc 0 (by omega)
      obtain ⟨b, off, sp⟩ := a
      have hadd0 : (⟨b, off, sp⟩ : Addr).add 0 = ⟨b, off, sp⟩ := by simp [Addr.add]
      rw [hadd0] at hc0
      have hcells : ∃ cs t fr, w.heap[b]? = some (.cells cs t fr) ∧ sp = none := by
        unfold World.cell? at hc0
        split at hc0
        · rename_i cs t fr hb
          refine ⟨cs, t, fr, hb, ?_⟩
          cases sp with
          | none => rfl
          | some s => simp at hc0
        · cases hc0
      obtain ⟨cs, t, fr, hb, rfl⟩ := hcells
      refine ⟨b, off, rfl, trivial, ?_, fun m x hx => ?_⟩
      · rcases Nat.lt_or_ge b w.heap.size with h | h
        · exact h
        · rw [Array.getElem?_eq_none h] at hb; cases hb
      · have hfl : (domq N).toDom.flat (.ints (zs.take len)) = (zs.take len).map iv := by
          show (((zs.take len).map rowI).flatten) = _
          generalize zs.take len = l
          induction l with
          | nil => rfl
          | cons y l ih => simp [rowI, ih]
        rw [hfl, List.getElem?_map] at hx
        obtain ⟨z, hz, rfl⟩ := Option.map_eq_some_iff.1 hx
        have hm : m < len := by
          rcases Nat.lt_or_ge m len with h | h
          · exact h
          · rw [List.getElem?_eq_none (by rw [hlen]; exact h)] at hz; cases hz
        refine ⟨.int .i64 z, ?_, rfl, rfl⟩
        have := hc m (by omega)
        rw [show (⟨b, off, none⟩ : Addr).add m = ⟨b, off + m, none⟩ by unfold Addr.add; split <;> simp_all] at this
        rw [this]
        rw [List.getElem?_take, if_pos hm] at hz
        simp [List.getD, hz]
/-- No integers. -/
theorem rb_ints_nil {N : Hide} {w : World} : RB (domq N).toDom (fun _ => none) (fun _ => True) w (.c (.im (.ints []))) (.slice none 0 0) :=
  ⟨1, trivial, ⟨none, 0, rfl, Nat.le_refl _, by show 0 ≤ maxLen; exact Nat.zero_le _⟩, .inl rfl⟩
theorem keep_cell {w w' : World} (hk : Keep (fun _ => False) w w') {a : Addr} {v : Value} (h : w.cell? a = some v) : w'.cell? a = some v := by
  unfold World.cell? at h ⊢
  split at h
  · rename_i c t fr hb
    have hlt : a.block < w.heap.size := by
      rcases Nat.lt_or_ge a.block w.heap.size with h' | h'
      · exact h'
      · rw [Array.getElem?_eq_none h'] at hb; cases hb
    rw [hk.block a.block hlt (fun f => f), hb]
    exact h
  · cases h
end Go.Sy
