/- Stores and appends; one operation as a whole. -/
import Derived.Test.YtfopdmoomdankaaSyO
set_option linter.unusedVariables false
set_option linter.unusedSimpArgs false
namespace Go.Sy
open Go

section
variable {K : Type} (N : Hide) (D : Dx K) (R : List (Nat × Sp K))

/-- One operation. -/
def step (d : Option Nat) (st : St K) (q : St K → Prop) (i : I) : Prop :=
  let new : Unit → Prop := fun _ => match d with
    | none => False
    | some d => os N D (fresh st d) (fun ob => q { sl := (d, objA ob d) :: (fresh st d).sl, hp := (d, ob) :: (fresh st d).hp }) i
  match i with
  | .box _ _ => new ()
  | .alloc _ => new ()
  | .mks _ _ _ _ _ => new ()
  | .bsl own _ _ _ => (match own with | true => new () | false => vs N D R st (fun x => q (st.put d x)) i)
  | .sto _ _ _ => es N D d st q i
  | .app _ _ _ _ _ => es N D d st q i
  | .call _ xs => vs N D R (frzs xs st) (fun x => q ((frzs xs st).put d x)) i
  | .callm f xs => (match ev st f with
    | .b (.c (.fn n none)) => (match lk R n, bargs st xs with | some s, some l => lend1 st d s l q | _, _ => False)
    | _ => False)
  | .inv T n ld x xs => (match ev st x with
    | .b (.c (.ifp U i o)) => (match eqn U T, lk R n, bargs st xs, recvOf st ld i o with | true, some s, some l, some b => lend1 st d s (b :: l) q | _, _, _, _ => False)
    | _ => False)
  | .slc sz x lo hi => (match ev st x with
    | .b (.c (.row i)) => slr D N st d sz i lo hi q
    | _ => vs N D R st (fun x => q (st.put d x)) (.slc sz x lo hi))
  | _ => vs N D R st (fun x => q (st.put d x)) i
end

section
variable {K : Type} {N : Hide} {P : Program} {D : Dx K} {R : List (Nat × Sp K)} {mb : Bw} {okc : Nat → Prop} {w0 w : World} {nt : Nat} {val : Nat → Option Value} {st : St K} {a : Act} {o : Oper}

theorem splice_rel {ok : Nat → Prop} {w : World} {val : Nat → Option Value} {cs xs : List (C K)} {us ys : List Value} (h : Rs D.toDom val ok w cs us) (hx : Rs D.toDom val ok w xs ys) (o n : Nat) : Rs D.toDom val ok w (cs.take o ++ xs ++ cs.drop (o + n)) (us.take o ++ ys ++ us.drop (o + n)) :=
  ((h.take D.toDom o).append D.toDom hx).append D.toDom (h.drop D.toDom (o + n))

theorem take_splice {α : Type} (L ys : List α) (p s T : Nat) (h1 : p + s ≤ T) (h2 : T ≤ L.length) (h3 : ys.length = s) :
    (L.take p ++ ys ++ L.drop (p + s)).take T = (L.take T).take p ++ ys ++ (L.take T).drop (p + s) := by
  have ha : (L.take p ++ ys).length = p + s := by simp; omega
  rw [List.take_append, List.take_of_length_le (by omega), ha, List.take_take, Nat.min_eq_left (by omega), List.drop_take]

/-- A block is written. -/
theorem set_block (hst : Rst D.toDom mb okc w0 nt val st a w) {i b : Nat} {ob ob' : Ob K} {v : Value} {us : List Value} (hi : lk st.hp i = some ob) (hk : ob'.isR = ob.isR) (hv : val i = some v) (hb : vblk v = some b)
    (ho : Mv (okS w0.heap.size okc st.hp val) (okS w0.heap.size okc ((i, ob') :: st.hp) val) w (w.setRow b us.toArray) → obRel D.toDom val (okS w0.heap.size okc ((i, ob') :: st.hp) val) (w.setRow b us.toArray) ob' v) :
    Rst D.toDom mb okc w0 nt val { sl := st.sl, hp := (i, ob') :: st.hp } a (w.setRow b us.toArray) :=
  hst.set D.toDom hi hk hv hb rfl rfl rfl (by simp) (fun b' hlt hne => setRow_other w b b' _ hne) ho

theorem put_none {y : Value} : a.put none y = a := rfl

theorem es_sto {T : TypeId} {x y : Operand} {x' y' : O} {sz : Nat} (hst : Rst D.toDom mb okc w0 nt val st a w) (hop : o.op = .store T x y) (hdn : o.dst = none) (hs : szT P T = some sz) (hx : CO x x') (hy : CO y y') {q : St K → Prop} {d : Option Nat} (h : es N D d st q (.sto sz x' y')) :
    ∃ st', q st' ∧ Leaves P D mb okc w0 nt a w o st' := by
  simp only [es] at h
  split at h
  · rename_i i of b h1 h2
    obtain ⟨blk, hv, hxe⟩ := rc_p (ev_c hst hx h1)
    have hcells := RB.cells D.toDom (ev_b hst hy h2)
    split at h
    · rename_i t cs hob
      split at h
      · rename_i hl hle
        have hl := lenB_eq hl
        have hle := len_true hle
        obtain ⟨v, hv', b', us, rfl, hg, hrs⟩ := hst.hpval hob
        rw [hv] at hv'; injection hv' with hv'; injection hv' with hv'; injection hv' with hv'; injection hv' with hv'
        subst hv'
        have hsz : (a.eval y).cells.size = sz := by have := hcells.1; rw [hl] at this; simpa using this.symm
        have hus : cs.length = us.size := by have := hrs.1; simpa using this
        have hrun := run_sto (P := P) (w := w) hs hsz hg (o := of) (by omega) (hcells.one D.toDom)
        refine ⟨_, h, leaves_skip (val' := val) (by simp only [execOp, hop, hxe, Sem.run_bind, hrun, Result.andThen_ok]; rfl) ?_⟩
        rw [hdn, put_none]
        refine set_block hst hob rfl hv rfl fun hm => ⟨blk, _, rfl, setRow_heap w blk us _ t _ hg, ?_⟩
        exact ((splice_rel hrs hcells of sz).mv D.toDom hm fun _ _ => rfl).castl (by rw [cat2_eq, cat2_eq, tk_eq, dr_eq, ← List.append_assoc])
      · exact h.elim
    · exact h.elim
  · rename_i i s n j b h1 h2
    obtain ⟨v, blk, hv, hvb, hxe⟩ := rc_pr (ev_c hst hx h1)
    have hcells := RB.cells D.toDom (ev_b hst hy h2)
    split at h
    · rename_i hclo hl
      have hl := lenB_eq hl
      have hsz : (a.eval y).cells.size = sz := by have := hcells.1; rw [hl] at this; simpa using this.symm
      have hone := hcells.one D.toDom
      have hclos := Rs.clo hcells hclo (fun _ => none)
      have hvblk : vblk v = some blk := by simp [vblk, hvb]
      split at h
      · rename_i e k hob
        split at h
        · rename_i k' hsk hjs hset
          obtain ⟨hn, hwf, hq⟩ := h
          have hn := thp hn
          have hwf := thp hwf
          have hsk := eqn_true hsk
          have hjs := len_true hjs
          obtain ⟨v', hv', hp, hwf0, xs, hown, hrs⟩ := hst.hpval hob
          rw [hv] at hv'; injection hv' with hv'; subst hv'
          obtain ⟨s1, s2, s3, s4⟩ := D.set_law k n j b.cells k' hset hp hn (by omega)
          rcases hown.2 with ⟨rfl, h0⟩ | ⟨g, cap, cur, rfl, hbg, hg, hnc, hcm, hcs, htake⟩
          · simp [vbase] at hvb
          · simp only [vbase, Option.some.injEq, Addr.mk.injEq, and_true] at hvb
            subst hvb
            have hfl : (D.flat k).length = D.len k * D.sz k := D.flat_len k
            have hns : n * D.sz k + D.sz k ≤ D.len k * D.sz k := by
              have : (n + 1) * D.sz k ≤ D.len k * D.sz k := Nat.mul_le_mul_right _ hn
              rwa [Nat.succ_mul] at this
            have hcapl : D.len k * D.sz k ≤ cap * D.sz k := Nat.mul_le_mul_right _ hnc
            have hrun := run_sto (P := P) (w := w) hs hsz hg (o := n * s + j) (by rw [hcs, hsk]; omega) hone
            refine ⟨_, hq, leaves_skip (val' := val) (by simp only [execOp, hop, hxe, Sem.run_bind, hrun, Result.andThen_ok]; rfl) ?_⟩
            rw [hdn, put_none]
            refine set_block hst hob rfl hv rfl fun hm => ⟨s1, hwf, xs.take (n * s + j) ++ (a.eval y).cells.toList ++ xs.drop (n * s + j + sz), ⟨?_, .inr ⟨g, cap, _, by rw [s3], hbg, setRow_heap w g cur _ e _ hg, by rw [s3]; exact hnc, hcm, ?_, ?_⟩⟩, ?_⟩
            · have := hown.1
              rw [s3, s2]
              simp only [List.length_append, List.length_take, List.length_drop, Array.length_toList, hsz, this, hsk]
              omega
            · rw [s2]
              simp only [List.size_toArray, List.length_append, List.length_take, List.length_drop, Array.length_toList, hsz, hcs, hsk]
              omega
            · rw [s3, s2, ← htake]
              simp only []
              rw [hsk]
              exact take_splice cur.toList _ _ _ _ (by omega) (by rw [Array.length_toList, hcs]; exact hcapl) (by simp [hsz])
            · rw [s4, ← hsk, hl]
              exact (splice_rel hrs hclos (n * s + j) sz).mv D.toDom hm fun _ _ => rfl
        · exact h.elim
      · rename_i e k hob
        split at h
        · rename_i k' hsk hjs hset
          obtain ⟨hn, hwf, hq⟩ := h
          have hn := thp hn
          have hwf := thp hwf
          have hsk := eqn_true hsk
          have hjs := len_true hjs
          obtain ⟨v', hv', hp, hwf0, g, us, rfl, hg, hrs⟩ := hst.hpval hob
          rw [hv] at hv'; injection hv' with hv'; subst hv'
          simp only [vbase, Option.some.injEq, Addr.mk.injEq, and_true] at hvb
          subst hvb
          obtain ⟨s1, s2, s3, s4⟩ := D.set_law k n j b.cells k' hset hp hn (by omega)
          have hfl : (D.flat k).length = D.len k * D.sz k := D.flat_len k
          have hns : n * D.sz k + D.sz k ≤ D.len k * D.sz k := by
            have : (n + 1) * D.sz k ≤ D.len k * D.sz k := Nat.mul_le_mul_right _ hn
            rwa [Nat.succ_mul] at this
          have hus : (D.flat k).length = us.size := by have := hrs.1; simpa using this
          have hrun := run_sto (P := P) (w := w) hs hsz hg (o := n * s + j) (by rw [hsk]; omega) hone
          refine ⟨_, hq, leaves_skip (val' := val) (by simp only [execOp, hop, hxe, Sem.run_bind, hrun, Result.andThen_ok]; rfl) ?_⟩
          rw [hdn, put_none]
          refine set_block hst hob rfl hv rfl fun hm => ⟨s1, hwf, g, _, rfl, setRow_heap w g us _ e _ hg, ?_⟩
          rw [s4, ← hsk, hl]
          exact (splice_rel hrs hclos (n * s + j) sz).mv D.toDom hm fun _ _ => rfl
        · exact h.elim
      · exact h.elim
    · exact h.elim
  · exact h.elim

theorem cells_list {D : Dom K} {ok : Nat → Prop} {w : World} {m b off : Nat} {fl : List (C K)} (h : ∀ (m' : Nat) (x : C K), fl[m']? = some x → ∃ y, w.cell? ⟨b, off + m', none⟩ = some y ∧ RC D ok w m (fun _ => none) x y) :
    ∃ us : List Value, (∀ j u, us[j]? = some u → w.cell? ⟨b, off + j, none⟩ = some u) ∧ Rs D (fun _ => none) ok w fl us := by
  have : ∀ n, n ≤ fl.length → ∃ us : List Value, (∀ j u, us[j]? = some u → w.cell? ⟨b, off + j, none⟩ = some u) ∧ Rs D (fun _ => none) ok w (fl.take n) us := by
    intro n
    induction n with
    | zero => intro _; exact ⟨[], fun j u hu => by simp at hu, rfl, fun j x hx => by simp at hx⟩
    | succ n ih =>
      intro hn
      obtain ⟨us, h1, h2⟩ := ih (by omega)
      obtain ⟨y, h3, h4⟩ := h n fl[n] (List.getElem?_eq_getElem (by omega))
      have hl : us.length = n := by have := h2.1; simp at this; omega
      refine ⟨us ++ [y], fun j u hu => ?_, ?_⟩
      · by_cases hj : j < us.length
        · rw [List.getElem?_append_left hj] at hu; exact h1 j u hu
        · rw [List.getElem?_append_right (by omega)] at hu
          have hj0 : j - us.length = 0 := by
            rcases Nat.eq_zero_or_pos (j - us.length) with h | h
            · exact h
            · rw [List.getElem?_eq_none (by simp; omega)] at hu; cases hu
          rw [hj0] at hu; simp at hu; subst hu
          have : j = n := by omega
          subst this; exact h3
      · rw [List.take_succ_eq_append_getElem (by omega)]
        exact h2.append D (Rs.cons D ⟨m, h4⟩ (Rs.nil D))
  obtain ⟨us, h1, h2⟩ := this fl.length (Nat.le_refl _)
  rw [List.take_length] at h2
  exact ⟨us, h1, h2⟩

theorem run_app_zero {T ty e : TypeId} {i : TypeInfo} {sz n c : Nat} {v : Value} {xs : List Value} {ad : Option Addr} (ht : P.underlying T = some (.slice e)) (hi : P.info? e = some i) (hown : w.ownsRow 0 e sz v n xs) :
    (Builtin.append_ #[T, T] ty #[v, .slice ad 0 c]).run P w = .ok v w := by
  rcases hown.2 with ⟨rfl, rfl⟩ | ⟨g, cap, cur, rfl, _, _, hnc, _⟩
  · cases ad <;> simp [Builtin.append_, run_underlying ht, sizeOf, typeInfo, hi, Builtin.lenOf, Builtin.firstCells, loadCells, loadCellsFrom]
  · cases ad <;> simp [Builtin.append_, run_underlying ht, sizeOf, typeInfo, hi, Builtin.lenOf, Builtin.firstCells, loadCells, loadCellsFrom, hnc, storeCells]

theorem es_app {T e : TypeId} {x y : Operand} {x' y' : O} {sz by_ : Nat} (hst : Rst D.toDom mb okc w0 nt val st a w) (hop : o.op = .call { callee := .builtin .append, args := #[x, y], argTypes := #[T, T] }) {d : Option Nat} (hdst : o.dst = d) (hnt : ∀ t, d = some t → t < nt)
    (hT : slE P T = some e) (hs : szT P e = some sz) (hsz : 0 < sz) (hby : byT P e = some by_) (hzs : zsT P e = true) (hx : CO x x') (hy : CO y y') {q : St K → Prop} (h : es N D d st q (.app e sz by_ x' y')) :
    ∃ st', q st' ∧ Leaves P D mb okc w0 nt a w o st' := by
  have ht := slE_some hT
  cases d with
  | none => exact h.elim
  | some d =>
    simp only [es] at h
    split at h
    · rename_i i h1
      split at h
      · rename_i e' k k2 hob h2
        split at h2
        · rename_i k2' h3
          injection h2 with h2; subst h2
          split at h
          · rename_i k' he' hsk hcat hd
            obtain ⟨hb, hwf, hq⟩ := h
            have hb := thp hb
            have hwf := thp hwf
            have he' := eqn_true he'
            have hsk := eqn_true hsk
            subst he'
            have hd' : d = i ∨ lk st.hp d = none := by
              split at hd
              · exact .inl (eqn_true ‹_›)
              · split at hd
                · exact .inr ‹_›
                · cases hd
            obtain ⟨hv, _⟩ := rc_row (ev_c hst hx h1)
            obtain ⟨v', hv', hp, hwf0, xs, hown, hrs⟩ := hst.hpval hob
            rw [hv] at hv'; injection hv' with hv'; subst hv'
            obtain ⟨m, him⟩ := rc_im (ev_c hst hy h3)
            obtain ⟨c1, c2, c3, c4, c5, c6⟩ := D.cat_law k k2' k' hp hcat
            obtain ⟨ad, c, hye, hc1, hc2, hcells⟩ := im_slice him c2
            -- the element's row of the table
            unfold zsT at hzs
            cases hi : P.info? e with
            | none => simp [hi] at hzs
            | some inf =>
              simp only [hi] at hzs
              cases hz : inf.zero with
              | none => simp [hz] at hzs
              | some z =>
                simp only [hz] at hzs
                have hzs := eqn_true hzs
                have hisz : inf.size = sz := by unfold szT at hs; rw [hi] at hs; simpa using hs
                have hiby : inf.bytes = by_ := by unfold byT at hby; rw [hi] at hby; simpa using hby
                have key : ∃ v' w' news, (Builtin.append_ #[T, T] o.type #[a.eval x, a.eval y]).run P w = .ok v' w' ∧ w'.ownsRow 0 e sz v' (D.len k + D.len k2') (xs ++ news) ∧ w.grownBy w' (a.eval x).ownBlock ∧
                    (v'.ownBlock = (a.eval x).ownBlock ∨ v'.ownBlock = some w.heap.size) ∧ Rs D.toDom (fun _ => none) (okS w0.heap.size okc st.hp val) w (D.flat k2') news := by
                  rw [hsk] at hown
                  rcases Nat.eq_zero_or_pos (D.len k2') with h0 | h0
                  · refine ⟨a.eval x, w, [], by rw [hye, h0]; exact run_app_zero ht hi hown, by rw [h0]; simpa using hown, ⟨rfl, rfl, rfl, Nat.le_refl _, fun _ _ _ => rfl⟩, .inl rfl, ?_⟩
                    have : D.flat k2' = [] := List.eq_nil_of_length_eq_zero (by rw [D.flat_len, h0, Nat.zero_mul])
                    rw [this]; exact Rs.nil _
                  · rcases hcells with h9 | ⟨b, off, rfl, _, _, hcc⟩
                    · omega
                    · obtain ⟨news, n1, n2⟩ := cells_list (D := D.toDom) hcc
                      have hnl : news.length = D.len k2' * sz := by rw [← n2.1, D.flat_len, c4, hsk]
                      obtain ⟨v', w', r1, r2, r3, _, r5⟩ := run_append_own_at (P := P) w 0 T o.type e inf z sz by_ ht hi hz hisz hiby (by omega) hsz (a.eval x) (D.len k) xs hown ⟨b, off, none⟩ (D.len k2') c news hnl (fun j u hu => by rw [add_addr]; exact n1 j u hu) (n2.one D.toDom) (by simp only [maxLen]; omega) hb.2 (Nat.zero_le _)
                      exact ⟨v', w', news, by rw [hye]; exact r1, r2, r3, r5, n2⟩
                obtain ⟨v', w', news, r1, r2, r3, r4, r5⟩ := key
                refine ⟨_, hq, ?_⟩
                have happ := hst.app D.toDom (d := d) (k' := k') (v' := v') (w' := w') (xs := xs ++ news) hob hv hd' (hnt _ rfl) c1 hwf r3 r4 (by rw [c3, c5, hsk]; exact r2) (fun ok' hm => by
                  rw [c6]; exact (hrs.mv D.toDom hm fun _ _ => rfl).append D.toDom (r5.mv D.toDom hm fun _ _ => rfl))
                refine leaves_value (y := v') (w' := w') (val' := upd (upd val i none) d (some v')) (by
                  simp only [execOp, hop, resolve, invoke, builtin, Sem.run_bind, Sem.run_pure, Result.andThen_ok, List.map_toArray, List.map_cons, List.map_nil, r1]) ?_
                rw [hdst]
                have hrow : ∃ ad n c, v' = .slice ad n c := by
                  rcases r2.2 with ⟨rfl, _⟩ | ⟨g, cap, cur, rfl, _⟩
                  · exact ⟨_, _, _, rfl⟩
                  · exact ⟨_, _, _, rfl⟩
                exact happ.put D.toDom (x := .b (.c (.row d))) (y := v') ⟨0, upd_same _ _, hrow⟩ (d := some d) hnt
          · exact h.elim
        · cases h2
      · exact h.elim
    · exact h.elim

theorem nilRow_sound {t d : Nat} {e : TypeId} (hst : Rst D.toDom mb okc w0 nt val st a w) (ht : t < nt) (hdn : d < nt) {q : St K → Prop} (h : nilRow N D st t d e q) : ∃ st' val', q st' ∧ Rst D.toDom mb okc w0 nt val' st' a w := by
  unfold nilRow at h
  split at h
  · rename_i k h1 h2 h3
    obtain ⟨hwf, hq⟩ := h
    have hwf := thp hwf
    obtain ⟨n1, n2⟩ := D.nil_law e k h3
    have hx : a.eval (.tmp t) = .slice none 0 0 := (ev_v hst (.t t) h1).1
    have hadd := hst.add D.toDom h2 hdn (ob := .row e k) (v := .slice none 0 0) (w' := w) (Keep.refl _ _) (fun b hb => by simp [vblk, vbase] at hb) (fun hm hval => ⟨n1, hwf, [], by rw [n2]; exact World.ownsRow_nil w 0 e _, by
      have : D.flat k = [] := List.eq_nil_of_length_eq_zero (by rw [D.flat_len, n2, Nat.zero_mul])
      rw [this]; exact Rs.nil _⟩)
    have hput := hadd.put D.toDom (x := .b (.c (.row d))) (y := .slice none 0 0) (d := some t) ⟨0, upd_same _ _, _, _, _, rfl⟩ (fun t' h => by injection h with h; subst h; exact ht)
    refine ⟨_, upd val d (some (.slice none 0 0)), hq, ?_⟩
    have hsame : a.put (some t) (.slice none 0 0) = a := by
      have hts : t < a.tmps.size := by rw [hst.size]; exact ht
      have hgt : a.tmps[t] = .slice none 0 0 := by
        have : a.tmps.getD t undef = .slice none 0 0 := hx
        simpa [Array.getD, hts] using this
      cases a with
      | mk tmps defers =>
        simp only [Act.put]
        congr 1
        apply Array.ext
        · simp
        · intro j h1 h2
          rw [Array.getElem_setIfInBounds]
          split
          · rename_i hj; subst hj; exact hgt.symm
          · rfl
    rw [hsame] at hput
    exact hput
  · exact h.elim

theorem nilB_cells {ok : Nat → Prop} {val : Nat → Option Value} {w : World} {cs r : List (C K)} {us : List Value} {p d : Nat} (hcs : cs = cs.take p ++ (.v (.slice none 0 0) :: r)) (hrs : Rs D.toDom val ok w cs us) (hv : val d = some (.slice none 0 0)) :
    Rs D.toDom val ok w (cat2 (tk p cs) (.row d :: r)) us := by
  rw [cat2_eq, tk_eq]
  have hlen : (cs.take p ++ (.row d :: r)).length = cs.length := by
    have := congrArg List.length hcs
    simp only [List.length_append, List.length_cons] at this ⊢
    omega
  refine ⟨by rw [hlen]; exact hrs.1, fun m z hz => ?_⟩
  have hget : ∀ m, m < (cs.take p).length → cs[m]? = (cs.take p)[m]? := fun m hm => by
    have h9 := congrArg (fun l => l[m]?) hcs
    rw [h9, List.getElem?_append_left hm]
  have hget2 : ∀ m, (cs.take p).length ≤ m → cs[m]? = ((C.v (.slice none 0 0) : C K) :: r)[m - (cs.take p).length]? := fun m hm => by
    have h9 := congrArg (fun l => l[m]?) hcs
    rw [h9, List.getElem?_append_right hm]
  by_cases hm1 : m < (cs.take p).length
  · rw [List.getElem?_append_left hm1] at hz
    exact hrs.2 m z (by rw [hget m hm1]; exact hz)
  · rw [List.getElem?_append_right (by omega)] at hz
    by_cases hm2 : m - (cs.take p).length = 0
    · rw [hm2] at hz
      simp at hz; subst hz
      obtain ⟨y, h1, n, h2⟩ := hrs.2 m (.v (.slice none 0 0)) (by rw [hget2 m (by omega), hm2]; rfl)
      have hy : y = .slice none 0 0 := by cases n <;> exact h2.1
      subst hy
      exact ⟨_, h1, 0, hv, _, _, _, rfl⟩
    · refine hrs.2 m z ?_
      rw [hget2 m (by omega)]
      obtain ⟨e, he⟩ : ∃ e, m - (cs.take p).length = e + 1 := ⟨m - (cs.take p).length - 1, by omega⟩
      rw [he] at hz ⊢
      simpa using hz

theorem nilB_sound {x : O} {j d : Nat} {e : TypeId} (hst : Rst D.toDom mb okc w0 nt val st a w) (hdn : d < nt) {q : St K → Prop} (h : nilB N D st x j d e q) : ∃ st' val', q st' ∧ Rst D.toDom mb okc w0 nt val' st' a w := by
  unfold nilB at h
  split at h
  case h_2 => exact h.elim
  rename_i i o hx
  split at h
  case h_2 => exact h.elim
  rename_i T cs k hob hdf hnil
  split at h
  case h_2 => exact h.elim
  rename_i r hdr
  obtain ⟨hwf, hq⟩ := h
  have hwf := thp hwf
  obtain ⟨n1, n2⟩ := D.nil_law e k hnil
  have hid : i ≠ d := fun e => by subst e; rw [hob] at hdf; cases hdf
  have hadd := hst.add D.toDom hdf hdn (ob := .row e k) (v := .slice none 0 0) (w' := w) (Keep.refl _ _) (fun b hb => by simp [vblk, vbase] at hb) (fun hm hval => ⟨n1, hwf, [], by rw [n2]; exact World.ownsRow_nil w 0 e _, by
    have : D.flat k = [] := List.eq_nil_of_length_eq_zero (by rw [D.flat_len, n2, Nat.zero_mul])
    rw [this]; exact Rs.nil _⟩)
  have hob2 : lk ((d, Ob.row e k) :: st.hp) i = some (.box T cs) := by rw [lk_cons_other hid]; exact hob
  obtain ⟨v, hv, b, us, rfl, hgp, hrs⟩ := hpv hadd hob2
  have hset := hadd.set D.toDom (ob' := .box T (cat2 (tk (o + j) cs) (.row d :: r))) (w' := w) hob2 rfl hv rfl rfl rfl rfl (Nat.le_refl _) (fun _ _ _ => rfl) (fun hm => ⟨b, us, rfl, hgp, ?_⟩)
  · exact ⟨_, _, hq, hset⟩
  · rw [dr_eq] at hdr
    exact nilB_cells (by rw [← hdr, List.take_append_drop]) (hrs.mv D.toDom hm fun _ _ => rfl) (upd_same _ _)

theorem step_sound {i : I} (hD : DomOk P D) (hR : ∀ f s, lk R f = some s → Meets P D.toDom f s) (hc : Cmp P o.op i) (hst : Rst D.toDom mb okc w0 nt val st a w) (hnt : ∀ t, o.dst = some t → t < nt) (hsd : ∀ s x y, i = .sto s x y → o.dst = none)
    {q : St K → Prop} (h : step N D R o.dst st q i) : ∃ st', q st' ∧ Leaves P D mb okc w0 nt a w o st' := by
  have hv : ∀ {i : I} {st : St K} {val : Nat → Option Value}, Cmp P o.op i → Rst D.toDom mb okc w0 nt val st a w → vs N D R st (fun x => q (st.put o.dst x)) i → ∃ st', q st' ∧ Leaves P D mb okc w0 nt a w o st' := by
    intro i st val hc hst h
    obtain ⟨x, hq, hg⟩ := vs_sound hD hR hc hst h
    exact ⟨_, hq, fun next Q hn => hg next Q fun y w' hst' hra => hn _ _ _ (hst'.put D.toDom hra hnt)⟩
  have hnew : (match o.dst with | none => False | some d => os N D (fresh st d) (fun ob => q { sl := (d, objA ob d) :: (fresh st d).sl, hp := (d, ob) :: (fresh st d).hp }) i) → ∃ st', q st' ∧ Leaves P D mb okc w0 nt a w o st' := by
    intro h
    cases hd : o.dst with
    | none => rw [hd] at h; exact h.elim
    | some d =>
      rw [hd] at h
      obtain ⟨val', hst', hnone⟩ := fresh_rst hst d
      obtain ⟨ob, hq, hl⟩ := os_sound hD hc hst' hd (hnt d hd) hnone h
      exact ⟨_, hq, hl⟩
  cases i with
  | box T x => exact hnew h
  | alloc T => exact hnew h
  | mks e sz by_ l c => exact hnew h
  | bsl own e sz ps => cases own with
    | true => exact hnew h
    | false => exact hv hc hst h
  | sto sz x y =>
    have hdn := hsd _ _ _ rfl
    generalize hop : o.op = op at hc
    cases hc with
    | sto hs hx hy => exact es_sto (d := o.dst) hst hop hdn hs hx hy h
  | app e sz by_ x y =>
    generalize hop : o.op = op at hc
    cases hc with
    | app hT hs hsz hby hzs hx hy => exact es_app hst hop rfl hnt hT hs hsz hby hzs hx hy h
  | call f xs =>
    obtain ⟨val', hst'⟩ := frzs_rst xs hst
    exact hv hc hst' h
  | slc sz x lo hi =>
    simp only [step] at h
    split at h
    · rename_i i hi0
      generalize hop : o.op = op at hc
      cases hc with
      | slc hT hs hx hlo hhi => exact slr_sound hst hop hnt hT hs hx hlo hhi hi0 h
    · exact hv hc hst h
  | callm f xs =>
    simp only [step] at h
    split at h
    case h_2 => exact h.elim
    rename_i n hf
    split at h
    case h_2 => exact h.elim
    rename_i s l hs hl
    generalize hop : o.op = op at hc
    cases hc with
    | @callm f' xs' ts _ _ hcf hxs =>
      have hev : a.eval f' = .func (.func n) #[] #[] := by
        obtain ⟨m, hm⟩ := ev_c hst hcf hf
        cases m <;> exact hm
      refine lend_sound (us := xs'.toList.map a.eval) hst (hR n s hs) hnt ?_ (bargs_rel (fun h => ev_rel hst h) hxs hl) h
      have harr : Array.map a.eval xs' = (xs'.toList.map a.eval).toArray := by apply Array.ext'; simp
      simp only [execOp, hop, resolve, hev, Deferred.ofValue, invoke, Sem.run_bind, Sem.run_pure, Result.andThen_ok, harr]
      simp
  | inv T n ld x xs =>
    simp only [step] at h
    split at h
    case h_2 => exact h.elim
    rename_i U i of hx0
    split at h
    case h_2 => exact h.elim
    rename_i s l bv hUT hs hl hrv
    have hUT := eqn_true hUT
    subst hUT
    generalize hop : o.op = op at hc
    cases hc with
    | @inv name x' xs' ts _ _ _ _ _ hmt hcx hxs =>
      obtain ⟨b, h1, h2⟩ := rc_ifp (ev_c hst hcx hx0)
      obtain ⟨y, h3, h4⟩ := mth_run hmt hst h1 hrv
      obtain ⟨b1, b2⟩ := bargs_rel (fun h => ev_rel hst h) hxs hl
      refine lend_sound (us := y :: xs'.toList.map a.eval) hst (hR n s hs) hnt ?_ ⟨by simp [b1], fun j z hz => ?_⟩ h
      · have h5 := h4 (xs'.map a.eval)
        have e1 : (#[Value.iface U (Value.pointer (some ⟨b, of, none⟩))] ++ Array.map a.eval xs')[0]? = some (Value.iface U (Value.pointer (some ⟨b, of, none⟩))) := by rw [Array.getElem?_append_left (by simp)]; rfl
        have e2 : (#[Value.iface U (Value.pointer (some ⟨b, of, none⟩))] ++ Array.map a.eval xs').extract 1 (#[Value.iface U (Value.pointer (some ⟨b, of, none⟩))] ++ Array.map a.eval xs').size = Array.map a.eval xs' := by apply Array.ext'; simp [List.take_of_length_le]
        have e3 : (y :: xs'.toList.map a.eval).toArray = #[y] ++ Array.map a.eval xs' := by apply Array.ext'; simp
        simp only [execOp, hop, resolve, h2, Sem.run_bind, Sem.run_pure, Result.andThen_ok, invoke, e1, e2]
        rw [h5, e3]
      · cases j with
        | zero => simp at hz; subst hz; exact ⟨y, rfl, h3⟩
        | succ j => simpa using b2 j z (by simpa using hz)
  | _ => exact hv hc hst h
end
end Go.Sy
