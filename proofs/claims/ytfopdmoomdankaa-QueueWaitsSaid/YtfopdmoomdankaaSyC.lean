/- Objects are made, written, appended to. -/
import Derived.Test.YtfopdmoomdankaaSyB
import Derived.Maps.AppendAt
set_option linter.unusedVariables false
set_option linter.unusedSimpArgs false
namespace Go.Sy
open Go

section
variable {K : Type} (D : Dom K)
variable {mb : Bw} {okc : Nat → Prop} {w0 w w' : World} {nt : Nat} {val : Nat → Option Value} {st : St K} {a : Act}

/-- A new object: its blocks are new ones. -/
theorem Rst.add (h : Rst D mb okc w0 nt val st a w) {d : Nat} (hd : lk st.hp d = none) (hdn : d < nt) {ob : Ob K} {v : Value} (hw : Keep (fun _ => False) w w')
    (hv : ∀ b, vblk v = some b → w.heap.size ≤ b ∧ b < w'.heap.size)
    (ho : Mv (okS w0.heap.size okc st.hp val) (okS w0.heap.size okc ((d, ob) :: st.hp) (upd val d (some v))) w w' →
      (∀ i v', val i = some v' → upd val d (some v) i = some v') → obRel D (upd val d (some v)) (okS w0.heap.size okc ((d, ob) :: st.hp) (upd val d (some v))) w' ob v) :
    Rst D mb okc w0 nt (upd val d (some v)) { sl := st.sl, hp := (d, ob) :: st.hp } a w' := by
  have hblk : ∀ b, b < w.heap.size → w'.heap[b]? = w.heap[b]? := fun b hlt => hw.block b hlt (fun f => f)
  have hvd : val d = none := h.vl d hd
  have hval : ∀ i v', val i = some v' → upd val d (some v) i = some v' := fun i v' hi => by
    have : i ≠ d := fun e => by subst e; rw [hvd] at hi; cases hi
    rw [upd_other this]; exact hi
  have hm : Mv (okS w0.heap.size okc st.hp val) (okS w0.heap.size okc ((d, ob) :: st.hp) (upd val d (some v))) w w' := by
    refine ⟨fun b hlt hok => ⟨⟨hok.1, fun i ob' v' hi hv' => ?_⟩, hblk b hlt⟩, hw.size⟩
    by_cases hid : i = d
    · subst hid
      rw [upd_same] at hv'
      injection hv' with hv'; subst hv'
      intro hb
      have := (hv b hb).1
      omega
    · rw [lk_cons_other hid] at hi
      rw [upd_other hid] at hv'
      exact hok.2 i ob' v' hi hv'
  refine ⟨⟨hw.os.trans h.keep.os, hw.tape.trans h.keep.tape, hw.output.trans h.keep.output, Nat.le_trans h.keep.size hw.size, fun b hlt hn => (hblk b (Nat.lt_of_lt_of_le hlt h.keep.size)).trans (h.keep.block b hlt hn)⟩, h.defs, h.size, fun t x hx => ?_, fun i ob' hi => ?_, fun i hi => ?_, fun i j ob1 ob2 v1 v2 b hi hj hv1 hv2 hb1 hb2 => ?_, h.bok, fun i ob1 v1 hp hi => ?_, h.pinlt, h.ntle⟩
  · obtain ⟨y, h1, h2⟩ := h.sl t x hx
    exact ⟨y, h1, (A.map_id x) ▸ h2.map D (σ := id) (fun x y hxy => hxy.mv' D hm hval)⟩
  · by_cases hid : i = d
    · subst hid
      simp only [] at hi
      rw [lk_cons_same] at hi
      injection hi with hi; subst hi
      exact ⟨v, upd_same _ _, ho hm hval, fun b hb => ⟨(hv b hb).2, .inr (Nat.le_trans h.keep.size (hv b hb).1)⟩⟩
    · simp only [] at hi
      rw [lk_cons_other hid] at hi
      obtain ⟨v', h1, h2, h3⟩ := h.hp i ob' hi
      exact ⟨v', hval i v' h1, h2.mv D hm hval (fun b hb => hblk b (h3 b hb).1), fun b hb => ⟨Nat.lt_of_lt_of_le (h3 b hb).1 hw.size, (h3 b hb).2⟩⟩
  · have hid : i ≠ d := fun e => by subst e; simp only [] at hi; rw [lk_cons_same] at hi; cases hi
    simp only [] at hi
    rw [lk_cons_other hid] at hi
    rw [upd_other hid]; exact h.vl i hi
  · simp only [] at hi hj
    by_cases hid : i = d <;> by_cases hjd : j = d
    · exact hid.trans hjd.symm
    · subst hid
      rw [upd_same] at hv1; injection hv1 with hv1; subst hv1
      rw [lk_cons_other hjd] at hj; rw [upd_other hjd] at hv2
      obtain ⟨v', h1, _, h3⟩ := h.hp j ob2 hj
      rw [hv2] at h1; injection h1 with h1; subst h1
      have := (h3 b hb2).1; have := (hv b hb1).1; omega
    · subst hjd
      rw [upd_same] at hv2; injection hv2 with hv2; subst hv2
      rw [lk_cons_other hid] at hi; rw [upd_other hid] at hv1
      obtain ⟨v', h1, _, h3⟩ := h.hp i ob1 hi
      rw [hv1] at h1; injection h1 with h1; subst h1
      have := (h3 b hb1).1; have := (hv b hb2).1; omega
    · rw [lk_cons_other hid] at hi; rw [upd_other hid] at hv1
      rw [lk_cons_other hjd] at hj; rw [upd_other hjd] at hv2
      exact h.dj i j ob1 ob2 v1 v2 b hi hj hv1 hv2 hb1 hb2
  · have hid : i ≠ d := fun e => by subst e; have := h.pinlt i v1 hp; have := h.ntle; omega
    simp only [] at hi
    rw [lk_cons_other hid] at hi
    rw [upd_other hid]
    exact h.pin i ob1 v1 hp hi

/-- An object is written in place. -/
theorem Rst.set (h : Rst D mb okc w0 nt val st a w) {i g : Nat} {ob ob' : Ob K} {v : Value} (hi : lk st.hp i = some ob) (hk : ob'.isR = ob.isR) (hvi : val i = some v) (hg : vblk v = some g)
    (hos : w'.os = w.os) (htape : w'.tape = w.tape) (hout : w'.output = w.output) (hsize : w.heap.size ≤ w'.heap.size)
    (hblk : ∀ b, b < w.heap.size → b ≠ g → w'.heap[b]? = w.heap[b]?)
    (ho : Mv (okS w0.heap.size okc st.hp val) (okS w0.heap.size okc ((i, ob') :: st.hp) val) w w' → obRel D val (okS w0.heap.size okc ((i, ob') :: st.hp) val) w' ob' v) :
    Rst D mb okc w0 nt val { sl := st.sl, hp := (i, ob') :: st.hp } a w' := by
  obtain ⟨v', h1, _, h3⟩ := h.hp i ob hi
  rw [hvi] at h1; injection h1 with h1; subst h1
  have hm : Mv (okS w0.heap.size okc st.hp val) (okS w0.heap.size okc ((i, ob') :: st.hp) val) w w' := by
    refine ⟨fun b hlt hok => ⟨⟨hok.1, fun j ob1 v1 hj hv1 => ?_⟩, hblk b hlt fun e => ?_⟩, hsize⟩
    · by_cases hji : j = i
      · subst hji; exact hok.2 j ob v1 hi hv1
      · rw [lk_cons_other hji] at hj; exact hok.2 j ob1 v1 hj hv1
    · subst e; exact hok.2 i ob v hi hvi hg
  have hgb := h3 g hg
  refine ⟨⟨hos.trans h.keep.os, htape.trans h.keep.tape, hout.trans h.keep.output, Nat.le_trans h.keep.size hsize, fun b hlt hn => ?_⟩, h.defs, h.size, fun t x hx => ?_, fun j ob1 hj => ?_, fun j hj => ?_, fun j l ob1 ob2 v1 v2 b hj hl hv1 hv2 hb1 hb2 => ?_, h.bok, fun j ob1 v1 hp hj => ?_, h.pinlt, h.ntle⟩
  · have hbg : b ≠ g := fun e => by subst e; rcases hgb.2 with h | h; exact hn h; omega
    exact (hblk b (Nat.lt_of_lt_of_le hlt h.keep.size) hbg).trans (h.keep.block b hlt hn)
  · obtain ⟨y, h1, h2⟩ := h.sl t x hx
    exact ⟨y, h1, h2.mv D hm fun _ _ => rfl⟩
  · by_cases hji : j = i
    · subst hji
      simp only [] at hj
      rw [lk_cons_same] at hj
      injection hj with hj; subst hj
      exact ⟨v, hvi, ho hm, fun b hb => ⟨Nat.lt_of_lt_of_le (h3 b hb).1 hsize, (h3 b hb).2⟩⟩
    · simp only [] at hj
      rw [lk_cons_other hji] at hj
      obtain ⟨v1, h4, h5, h6⟩ := h.hp j ob1 hj
      exact ⟨v1, h4, h5.mv D hm (fun _ _ h => h) (fun b hb => hblk b (h6 b hb).1 fun e => by subst e; exact hji (h.dj j i ob1 ob v1 v b hj hi h4 hvi hb hg)), fun b hb => ⟨Nat.lt_of_lt_of_le (h6 b hb).1 hsize, (h6 b hb).2⟩⟩
  · have hji : j ≠ i := fun e => by subst e; simp only [] at hj; rw [lk_cons_same] at hj; cases hj
    simp only [] at hj
    rw [lk_cons_other hji] at hj
    exact h.vl j hj
  · simp only [] at hj hl
    have back : ∀ {j : Nat} {ob1 : Ob K}, lk ((i, ob') :: st.hp) j = some ob1 → ∃ ob0, lk st.hp j = some ob0 := fun {j ob1} hj => by
      by_cases hji : j = i
      · subst hji; exact ⟨_, hi⟩
      · rw [lk_cons_other hji] at hj; exact ⟨_, hj⟩
    obtain ⟨o1, hj⟩ := back hj
    obtain ⟨o2, hl⟩ := back hl
    exact h.dj j l o1 o2 v1 v2 b hj hl hv1 hv2 hb1 hb2
  · simp only [] at hj
    by_cases hji : j = i
    · subst hji; exact h.pin j ob v1 hp hi
    · rw [lk_cons_other hji] at hj; exact h.pin j ob1 v1 hp hj

/-- A row grows: it is another object now, d; what named the old one is struck. -/
theorem Rst.app (h : Rst D mb okc w0 nt val st a w) {i d : Nat} {e : TypeId} {k k' : K} {v v' : Value} {xs : List Value}
    (hi : lk st.hp i = some (.row e k)) (hvi : val i = some v) (hd : d = i ∨ lk st.hp d = none) (hdn : d < nt)
    (hp : D.ptr k' = false) (hwf : D.wf k')
    (hg : w.grownBy w' v.ownBlock) (hat : v'.ownBlock = v.ownBlock ∨ v'.ownBlock = some w.heap.size)
    (hown : w'.ownsRow 0 e (D.sz k') v' (D.len k') xs)
    (hrs : ∀ ok', Mv (okS w0.heap.size okc st.hp val) ok' w w' → Rs D (fun _ => none) ok' w' (D.flat k') xs) :
    Rst D mb okc w0 nt (upd (upd val i none) d (some v')) { sl := mapS (A.map (kC i)) st.sl, hp := (d, .row e k') :: mapS (Ob.map (kC i)) (rem i st.hp) } a w' := by
  obtain ⟨v0, h1, h2, h3⟩ := h.hp i _ hi
  rw [hvi] at h1; injection h1 with h1; subst h1
  -- own block, spelled by vblk
  have hvo : v.ownBlock = vblk v := by
    obtain ⟨_, _, xs0, ho, _⟩ := h2
    rcases ho.2 with ⟨rfl, _⟩ | ⟨g, cap, cur, rfl, _⟩ <;> rfl
  have hvo' : v'.ownBlock = vblk v' := by
    rcases hown.2 with ⟨rfl, _⟩ | ⟨g, cap, cur, rfl, _⟩ <;> rfl
  have hlt' : ∀ b, vblk v' = some b → b < w'.heap.size := by
    intro b hb
    rcases hown.2 with ⟨rfl, _⟩ | ⟨g, cap, cur, rfl, _, hh, _⟩
    · simp [vblk, vbase] at hb
    · simp [vblk, vbase] at hb; subst hb; exact (Array.getElem?_eq_some_iff.1 hh).1
  have hblk : ∀ b, b < w.heap.size → vblk v ≠ some b → w'.heap[b]? = w.heap[b]? := fun b hlt hne => hg.block b hlt (by rw [hvo]; exact fun e => hne e.symm)
  have hside : ∀ b, vblk v' = some b → vblk v = some b ∨ w.heap.size ≤ b := by
    intro b hb
    rcases hat with hat | hat
    · left; rw [← hvo, ← hat, hvo', hb]
    · right; rw [hvo', hb] at hat; injection hat with hat; omega
  have hne : ∀ j : Nat, j ≠ i → ∀ v1, val j = some v1 → upd (upd val i none) d (some v') j = some v1 := by
    intro j hji v1 hv1
    have : j ≠ d := fun e => by
      subst e
      rcases hd with hd | hd
      · exact hji hd
      · have := h.vl j hd; rw [this] at hv1; cases hv1
    rw [upd_other this, upd_other hji]; exact hv1
  let hp' : List (Nat × Ob K) := (d, .row e k') :: mapS (Ob.map (kC i)) (rem i st.hp)
  let val' := upd (upd val i none) d (some v')
  have look : ∀ {j : Nat} {ob : Ob K}, lk hp' j = some ob → (j = d ∧ ob = .row e k') ∨ (j ≠ d ∧ j ≠ i ∧ ∃ ob0, lk st.hp j = some ob0 ∧ ob = ob0.map (kC i)) := by
    intro j ob hj
    by_cases hjd : j = d
    · subst hjd; simp only [hp'] at hj; rw [lk_cons_same] at hj; injection hj with hj; exact .inl ⟨rfl, hj.symm⟩
    · simp only [hp'] at hj; rw [lk_cons_other hjd] at hj
      obtain ⟨a1, a2⟩ := lk_sub_hp (st := st) hj
      exact .inr ⟨hjd, a1, a2⟩
  have vother : ∀ j, j ≠ d → j ≠ i → val' j = val j := fun j h1 h2 => by simp only [val']; rw [upd_other h1, upd_other h2]
  have hm : Mv (okS w0.heap.size okc st.hp val) (okS w0.heap.size okc hp' val') w w' := by
    refine ⟨fun b hlt hok => ⟨⟨hok.1, fun j ob v1 hj hv1 => ?_⟩, hblk b hlt (hok.2 i _ v hi hvi)⟩, hg.size⟩
    rcases look hj with ⟨rfl, rfl⟩ | ⟨hjd, hji, ob0, h0, rfl⟩
    · simp only [val'] at hv1; rw [upd_same] at hv1; injection hv1 with hv1; subst hv1
      intro hb
      rcases hside b hb with hb | hb
      · exact hok.2 i _ v hi hvi hb
      · omega
    · rw [vother j hjd hji] at hv1; exact hok.2 j ob0 v1 h0 hv1
  have hσ : ∀ x y, Rc D val (okS w0.heap.size okc st.hp val) w x y → Rc D val' (okS w0.heap.size okc hp' val') w' (kC i x) y := by
    intro x y hxy
    unfold kC
    cases hx : x.has i
    · refine hxy.mv D hm fun j hj => ?_
      obtain ⟨v1, hv1⟩ := hxy.live D hj
      rw [hv1]; exact hne j (has_ne hx hj) v1 hv1
    · exact ⟨0, Rc_one D hxy⟩
  refine ⟨⟨hg.os.trans h.keep.os, hg.tape.trans h.keep.tape, hg.output.trans h.keep.output, Nat.le_trans h.keep.size hg.size, fun b hlt hn => ?_⟩, h.defs, h.size, fun t x hx => ?_, fun j ob hj => ?_, fun j hj => ?_, fun j l ob1 ob2 v1 v2 b hj hl hv1 hv2 hb1 hb2 => ?_, h.bok, fun j ob1 v1 hp hj => ?_, h.pinlt, h.ntle⟩
  · refine (hblk b (Nat.lt_of_lt_of_le hlt h.keep.size) fun e => ?_).trans (h.keep.block b hlt hn)
    rcases (h3 b e).2 with h | h
    · exact hn h
    · omega
  · simp only [] at hx
    rw [lk_mapS] at hx
    obtain ⟨x0, h0, rfl⟩ := Option.map_eq_some_iff.1 hx
    obtain ⟨y, h4, h5⟩ := h.sl t x0 h0
    exact ⟨y, h4, h5.map D hσ⟩
  · rcases look hj with ⟨rfl, rfl⟩ | ⟨hjd, hji, ob0, h0, rfl⟩
    · refine ⟨v', upd_same _ _, ⟨hp, hwf, xs, hown, hrs _ hm⟩, fun b hb => ⟨hlt' b hb, ?_⟩⟩
      rcases hside b hb with hb | hb
      · exact (h3 b hb).2
      · exact .inr (Nat.le_trans h.keep.size hb)
    · obtain ⟨v1, h4, h5, h6⟩ := h.hp j ob0 h0
      refine ⟨v1, by simp only [val'] at vother; rw [vother j hjd hji]; exact h4, h5.map D hm hσ (fun b hb => hblk b (h6 b hb).1 fun e => hji (h.dj j i ob0 _ v1 v b h0 hi h4 hvi hb e)), fun b hb => ⟨Nat.lt_of_lt_of_le (h6 b hb).1 hg.size, (h6 b hb).2⟩⟩
  · have hjd : j ≠ d := fun e => by subst e; simp only [] at hj; rw [lk_cons_same] at hj; cases hj
    rw [upd_other hjd]
    simp only [] at hj
    rw [lk_cons_other hjd] at hj
    by_cases hji : j = i
    · subst hji; exact upd_same _ _
    · rw [upd_other hji]
      refine h.vl j ?_
      rw [lk_mapS, lk_rem_other hji] at hj
      simpa using hj
  · have hv1 : val' j = some v1 := hv1
    have hv2 : val' l = some v2 := hv2
    rcases look hj with ⟨rfl, rfl⟩ | ⟨hjd, hji, o1, hj1, rfl⟩ <;> rcases look hl with ⟨rfl, rfl⟩ | ⟨hld, hli, o2, hl1, rfl⟩
    · rfl
    · simp only [val'] at hv1; rw [upd_same] at hv1; injection hv1 with hv1; subst hv1
      rw [vother l hld hli] at hv2
      obtain ⟨v3, h4, _, h6⟩ := h.hp l o2 hl1
      rw [hv2] at h4; injection h4 with h4; subst h4
      rcases hside b hb1 with hb | hb
      · exact absurd (h.dj l i o2 _ v2 v b hl1 hi hv2 hvi hb2 hb) hli
      · have := (h6 b hb2).1; omega
    · simp only [val'] at hv2; rw [upd_same] at hv2; injection hv2 with hv2; subst hv2
      rw [vother j hjd hji] at hv1
      obtain ⟨v3, h4, _, h6⟩ := h.hp j o1 hj1
      rw [hv1] at h4; injection h4 with h4; subst h4
      rcases hside b hb2 with hb | hb
      · exact absurd (h.dj j i o1 _ v1 v b hj1 hi hv1 hvi hb1 hb) hji
      · have := (h6 b hb1).1; omega
    · rw [vother j hjd hji] at hv1
      rw [vother l hld hli] at hv2
      exact h.dj j l o1 o2 v1 v2 b hj1 hl1 hv1 hv2 hb1 hb2
  · have hjd : j ≠ d := fun e => by subst e; have := h.pinlt j v1 hp; have := h.ntle; omega
    rcases look hj with ⟨rfl, rfl⟩ | ⟨_, hji, o1, hj1, rfl⟩
    · exact (hjd rfl).elim
    · rw [upd_other hjd, upd_other hji]; exact h.pin j o1 v1 hp hj1
end
end Go.Sy
