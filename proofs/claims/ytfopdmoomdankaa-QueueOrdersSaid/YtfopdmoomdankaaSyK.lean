/- A value operation of the loaded code does what the abstract step says: the theorem. -/
import Derived.Test.YtfopdmoomdankaaSyJ
set_option linter.unusedVariables false
set_option linter.unusedSimpArgs false
namespace Go.Sy
open Go

section
variable {K : Type} {N : Hide} {P : Program} {D : Dx K} {R : List (Nat × Sp K)} {mb : Bw} {okc : Nat → Prop} {w0 w : World} {nt : Nat} {val : Nat → Option Value} {st : St K} {a : Act} {o : Oper}

theorem keep_alloc {w : World} {ob : Obj} : Keep (fun _ => False) w (w.alloc ob) := ⟨rfl, rfl, rfl, by simp, fun b hb _ => heap_alloc_old w ob hb⟩

theorem gives_im_ld {T : TypeId} {x : Operand} {g : Bool} {sz b of n j m : Nat} {k : K} {s : Value} {q : A K → Prop} (hst : Rst D.toDom mb okc w0 nt val st a w) (hop : o.op = .load T x) (hg : aggT P T = some g) (hs : szT P T = some sz)
    (him : Im D.toDom (okS w0.heap.size okc st.hp val) w (RC D.toDom (okS w0.heap.size okc st.hp val) w m fun _ => none) k s) (hb : vbase s = some ⟨b, of, none⟩) (hn : n < D.len k) (hj : j + sz ≤ D.sz k)
    (hx : a.eval x = .pointer (some ⟨b, of + (n * D.sz k + j), none⟩)) (h : asm g (cellsFrom D k n j sz) q) : ∃ x, q x ∧ Gives P D mb okc w0 nt val st a w o x := by
  obtain ⟨us, h1, h2, h3⟩ := im_cells (val := val) him hb hn sz j hj
  refine gives_ld hst hop hg hs hx h1 h2 ?_ h
  rw [cellsFrom_eq]; exact h3

theorem bytes_of {w : World} {b off : Nat} {l : List Int} {ok : Nat → Prop} {m : Nat} (h : ∀ (m' : Nat) (x : C K), (l.map fun n => (C.v (.int .u8 n) : C K))[m']? = some x → ∃ y, w.cell? ⟨b, off + m', none⟩ = some y ∧ RC D.toDom ok w m (fun _ => none) x y) :
    (loadCells ⟨b, off, none⟩ l.length).run P w = .ok (l.map (Value.int .u8)).toArray w := by
  have := run_loadCells_list (P := P) w ⟨b, off, none⟩ (l.map (Value.int .u8)) (fun j v hv => by
    rw [add_addr]
    rw [List.getElem?_map] at hv
    obtain ⟨n, hn, rfl⟩ := Option.map_eq_some_iff.1 hv
    obtain ⟨y, hy, hr⟩ := h j (.v (.int .u8 n)) (by rw [List.getElem?_map, hn]; rfl)
    have : y = .int .u8 n := by cases m <;> exact hr.1
    rw [this] at hy; exact hy)
  simpa using this

theorem fold_bytes : ∀ (l : List Int) (s : ByteArray), l.foldl (fun r n => r.push (UInt8.ofNat n.toNat)) s = ⟨s.data ++ (l.map fun n => UInt8.ofNat n.toNat).toArray⟩
  | [], s => by simp
  | n :: l, s => by
    rw [List.foldl_cons, fold_bytes l]
    congr 1
    apply Array.ext'
    simp [ByteArray.push]

theorem valsOf_rel {ok : Nat → Prop} : ∀ {cs : List (C K)} {us us' : List Value}, valsOf cs = some us → Rs D.toDom val ok w cs us' → us' = us
  | [], us, us', h, hr => by simp only [valsOf, Option.some.injEq] at h; subst h; exact List.eq_nil_of_length_eq_zero hr.1.symm
  | .v x :: r, us, us', h, hr => by
    simp only [valsOf] at h
    split at h
    · rename_i l hl
      injection h with h; subst h
      cases us' with
      | nil => have := hr.1; simp at this
      | cons u us' =>
        obtain ⟨y, h1, n, h2⟩ := hr.2 0 (.v x) rfl
        simp at h1; subst h1
        have hu : u = x := by cases n <;> exact h2.1
        subst hu
        have ih := valsOf_rel hl (us' := us') ⟨by have := hr.1; simpa using this, fun j z hz => by simpa using hr.2 (j + 1) z (by simpa using hz)⟩
        rw [ih]
    · cases h
  | .top :: _, _, _, h, _ => by simp [valsOf] at h
  | .p _ _ :: _, _, _, h, _ => by simp [valsOf] at h
  | .ifp _ _ _ :: _, _, _, h, _ => by simp [valsOf] at h
  | .row _ :: _, _, _, h, _ => by simp [valsOf] at h
  | .pr _ _ _ _ :: _, _, _, h, _ => by simp [valsOf] at h
  | .im _ :: _, _, _, h, _ => by simp [valsOf] at h
  | .ip _ _ _ :: _, _, _, h, _ => by simp [valsOf] at h
  | .fn _ _ :: _, _, _, h, _ => by simp [valsOf] at h
theorem ones_all : ∀ {us : List Value}, ones us = true → ∀ u ∈ us, u.oneCell' = true
  | [], _, u, hu => by cases hu
  | x :: r, h, u, hu => by
    simp only [ones] at h
    split at h
    · rcases List.mem_cons.1 hu with rfl | hu
      · assumption
      · exact ones_all h u hu
    · cases h

theorem vs_sound {i : I} (hD : DomOk P D) (hR : ∀ f s, lk R f = some s → Meets P D.toDom f s) (hc : Cmp P o.op i) (hst : Rst D.toDom mb okc w0 nt val st a w) {q : A K → Prop} (h : vs N D R st q i) :
    ∃ x, q x ∧ Gives P D mb okc w0 nt val st a w o x := by
  generalize hop : o.op = op at hc
  cases hc with
  | mv hx => exact ⟨_, h, gives_same hst (by simp [execOp, hop]) (ev_rel hst hx)⟩
  | asg hx => exact ⟨_, h, gives_same hst (by simp [execOp, hop]) (ev_rel hst hx)⟩
  | pick hcc hx hy =>
    simp only [vs] at h
    split at h
    · rename_i b hb
      have hb' := (ev_v hst hcc hb).1
      cases b
      · exact ⟨_, h, gives_same (y := a.eval _) hst (by simp [execOp, hop, hb', asBool]) (ev_rel hst hy)⟩
      · exact ⟨_, h, gives_same (y := a.eval _) hst (by simp [execOp, hop, hb', asBool]) (ev_rel hst hx)⟩
    · exact h.elim
  | box hx => exact h.elim
  | alloc => exact h.elim
  | build hpl hps =>
    simp only [vs] at h
    split at h
    · rename_i T' cs hz
      split at h
      · rename_i cs' hf
        exact ⟨_, h, vs_build hD hst hop hpl hps hz hf⟩
      · exact h.elim
    · exact h.elim
  | @bsl T e n ps xs ys own sz hT hs hsz hzt hn hle he hxs =>
    simp only [vs] at h
    subst hn
    cases own with
    | true => exact h.elim
    | false =>
      simp only at h
      split at h
      · rename_i ls hls
        split at h
        · rename_i k hk
          obtain ⟨hwf, hq⟩ := h
          have hwf := thp hwf
          obtain ⟨hp, hlen, hfl⟩ := D.ofE_law e ls k hk
          obtain ⟨r1, r2, r3⟩ := rows_rel (fun h => ev_rel hst h) hxs hls
          refine ⟨_, hq, fun next Q hnx => ?_⟩
          have hlen2 := elemAt_len he
          have hlx : ps.size = xs.length := by simpa using hlen2
          by_cases h0 : xs = []
          · -- nothing in it
            subst h0
            obtain rfl : ls = [] := List.eq_nil_of_length_eq_zero (by simpa using r1)
            have hps : ps.size = 0 := by simpa using hlx
            obtain ⟨us, hus, hrun⟩ := run_bsl (P := P) (w := w) (a := a) (o := o) hT hs hle he (fun x hx => by cases hx) hop (.inl (by rw [hps]; simp))
            refine wp_value hrun (hnx _ _ (hst.world D.toDom keep_alloc) ⟨1, hwf, ?_, .inl (by rw [hlen]; rfl)⟩)
            rw [hp, hlen, hps]
            exact ⟨_, 0, rfl, Nat.le_refl _, by simp [maxLen]⟩
          · have hszz : ∀ x ∈ xs, (a.eval x).cells.size = sz := by
              intro x hx
              obtain ⟨j, hj⟩ := List.mem_iff_getElem?.1 hx
              have hjl : j < ls.length := by
                have := (List.getElem?_eq_some_iff.1 hj).1; omega
              have h9 := r3 j _ x (List.getElem?_eq_getElem hjl) hj
              have h8 := (r2 _ (List.getElem_mem hjl)).2
              have h7 := h9.1
              rw [h8] at h7; simpa using h7.symm
            have hpos : 0 < xs.length := List.length_pos_iff.2 h0
            have hzero : ps.size * sz = 0 ∨ ∃ i z, P.info? e = some i ∧ i.zero = some z := by
              unfold zT at hzt
              cases hi : P.info? e with
              | none => simp [hi] at hzt
              | some i =>
                simp only [hi] at hzt
                obtain ⟨z, hz⟩ := Option.isSome_iff_exists.1 hzt
                exact .inr ⟨i, z, rfl, hz⟩
            obtain ⟨us, hus, hrun⟩ := run_bsl (P := P) (w := w) (a := a) (o := o) hT hs hle he hszz hop hzero
            have hkeep : Keep (fun _ => False) w (w.alloc (.cells us e)) := keep_alloc
            refine wp_value hrun (hnx _ _ (hst.world D.toDom hkeep) ?_)
            have hrs : Rs D.toDom val (okS w0.heap.size okc st.hp val) w (D.flat k) us.toList := by
              rw [hfl, hus]
              refine (rows_flat (vs := xs.map a.eval) (by simpa using r1) fun j l v hj hv => ?_).cast (by simp [Function.comp_def])
              rw [List.getElem?_map] at hv
              obtain ⟨x, hx, rfl⟩ := Option.map_eq_some_iff.1 hv
              exact r3 j l x hj hx
            have hm : Mv (okS w0.heap.size okc st.hp val) (okS w0.heap.size okc st.hp val) w (w.alloc (.cells us e)) := ⟨fun b hlt hok => ⟨hok, heap_alloc_old w _ hlt⟩, hkeep.size⟩
            have hrs2 : Rs D.toDom (fun _ => none) (okS w0.heap.size okc st.hp val) (w.alloc (.cells us e)) (D.flat k) us.toList := by
              refine hrs.mv D.toDom hm fun i hi => ?_
              obtain ⟨x, hx, hh⟩ := List.any_eq_true.1 hi
              rw [hfl] at hx
              rw [clo_has (allClo_flat (fun l hl => (r2 l hl).1) x hx) i] at hh; cases hh
            obtain ⟨Nf, hNf⟩ := Rs.fuel D.toDom hrs2
            refine ⟨Nf + 1, hwf, ?_, .inr ⟨w.heap.size, 0, rfl, ⟨fun hb => ?_, fun i ob v hi hv hb => ?_⟩, by simp, fun m x hx => ?_⟩⟩
            · rw [hp, hlen, r1, ← hlx]
              refine ⟨_, _, rfl, Nat.le_refl _, ?_⟩
              have : ps.size * 1 ≤ ps.size * sz := Nat.mul_le_mul_left _ hsz
              simp only [maxLen]; omega
            · have := hst.keep.size; omega
            · have := hst.hplt hi hv hb; omega
            · obtain ⟨y, h1, h2⟩ := hNf m x hx
              refine ⟨y, ?_, h2⟩
              rw [cell_of_row _ w.heap.size (0 + m) us e (0, 0) (heap_alloc_new w _)]
              simpa using h1
        · exact h.elim
      · exact h.elim
  | @ld T x x' g sz hg hs hx =>
    simp only [vs] at h
    split at h
    · rename_i i o' hi
      obtain ⟨b, hv, hxe⟩ := rc_p (ev_c hst hx hi)
      split at h
      · rename_i t cs hob
        split at h
        · rename_i hlen
          have hlen := lenB_eq hlen
          obtain ⟨v, hv', b', us, rfl, hg', hrs⟩ := hst.hpval hob
          rw [hv] at hv'; injection hv' with hv'; injection hv' with hv'; injection hv' with hv'; injection hv' with hv'
          subst hv'
          rw [tk_eq, dr_eq] at h hlen
          refine gives_ld (us := (us.toList.drop o').take sz) hst hop hg hs hxe (by have := ((hrs.drop D.toDom o').take D.toDom sz).1; rw [← this, hlen]) (fun j u hu => ?_) ((hrs.drop D.toDom o').take D.toDom sz) h
          rw [List.getElem?_take] at hu
          split at hu
          · rw [List.getElem?_drop] at hu
            rw [cell_of_row w b (o' + j) us t (0, 0) hg']
            simpa using hu
          · cases hu
        · exact h.elim
      · exact h.elim
    · rename_i i s n j hi
      obtain ⟨v, b, hv, hvb, hxe⟩ := rc_pr (ev_c hst hx hi)
      split at h
      · rename_i e k hob
        split at h
        · rename_i h1 h2
          have h1 := eqn_true h1
          have h2 := len_true h2
          subst h1
          obtain ⟨us, u1, u2, u3⟩ := pr_cells hst hob (.inl ⟨e, rfl⟩) hv hvb (thp h.1) h2
          exact gives_ld hst hop hg hs hxe u1 u2 u3 h.2
        · exact h.elim
      · rename_i e k hob
        split at h
        · rename_i h1 h2
          have h1 := eqn_true h1
          have h2 := len_true h2
          subst h1
          obtain ⟨us, u1, u2, u3⟩ := pr_cells hst hob (.inr ⟨e, rfl⟩) hv hvb (thp h.1) h2
          exact gives_ld hst hop hg hs hxe u1 u2 u3 h.2
        · exact h.elim
      · exact h.elim
    · rename_i k n j hi
      obtain ⟨hn, s, b, of, m, him, hb, hxe⟩ := rc_ip (ev_c hst hx hi)
      split at h
      · rename_i h2
        exact gives_im_ld hst hop hg hs him hb hn (len_true h2) hxe h
      · exact h.elim
    · rename_i k hi
      obtain ⟨m, him⟩ := rc_im (ev_c hst hx hi)
      split at h
      · rename_i hp hle
        obtain ⟨b, of, hxe⟩ := im_ptr him hp
        exact gives_im_ld (n := 0) (j := 0) hst hop hg hs him (by rw [hxe]; rfl) (by rw [D.ptr_len k hp]; exact Nat.zero_lt_one) (by rw [Nat.zero_add]; exact len_true hle) (by rw [hxe]; simp) h
      · exact h.elim
    · exact h.elim
  | sto _ _ _ => exact h.elim
  | @nilc x x' hx =>
    simp only [vs] at h
    split at h
    · rename_i i o' hi
      have hr := ev_c hst hx hi
      obtain ⟨b, _, hxe⟩ := rc_p hr
      exact ⟨_, h, gives_same (y := a.eval x) hst (by simp [execOp, hop, hxe]) hr⟩
    · rename_i k hi
      have hr := ev_c hst hx hi
      obtain ⟨m, him⟩ := rc_im hr
      split at h
      · rename_i hp
        obtain ⟨b, of, hxe⟩ := im_ptr him hp
        exact ⟨_, h, gives_same (y := a.eval x) hst (by simp [execOp, hop, hxe]) hr⟩
      · exact h.elim
    · exact h.elim
  | @bin op T x y T' x' y' hT hx hy =>
    simp only [vs] at h
    split at h
    · rename_i k A k' B h1 h2
      have e1 := (ev_v hst hx h1).1
      have e2 := (ev_v hst hy h2).1
      have fin : ∀ op', op = op' → ((op' = .shl ∨ op' = .shr) ∨ k = k') → binV N op' k A B (fun v => q (.b (.c (.v v)))) → ∃ x, q x ∧ Gives P D mb okc w0 nt val st a w o x := by
        intro op' hop' hk hb
        subst hop'
        obtain ⟨v, q1, q2, q3⟩ := binV_run (P := P) (w := w) (T := T) (k' := k') hk hb
        exact ⟨_, q1, gives_same hst (run_bin_gives hop e1 e2 q3) (rc_v q2 rfl)⟩
      split at h
      · exact fin _ rfl (.inl (.inl rfl)) h
      · exact fin _ rfl (.inl (.inr rfl)) h
      · exact fin _ rfl (.inr (of_decide_eq_true ‹decide (k = k') = true›)) h
      · exact h.elim
    · exact h.elim
  | eqb hT hx hy =>
    simp only [vs] at h
    split at h
    · rename_i A B h1 h2
      have e1 := (ev_v hst hx h1).1
      have e2 := (ev_v hst hy h2).1
      refine ⟨_, h, gives_same hst (y := .bool (A == B)) ?_ (rc_v rfl (by rw [N.eq]))⟩
      have := run_eql_bool (P := P) w _ A B (boolT_some hT)
      simp only [execOp, hop, e1, e2]
      simp [eqGuard, this]
    · exact h.elim
  | neb hT hx hy =>
    simp only [vs] at h
    split at h
    · rename_i A B h1 h2
      have e1 := (ev_v hst hx h1).1
      have e2 := (ev_v hst hy h2).1
      refine ⟨_, h, gives_same hst (y := .bool (!(A == B))) ?_ (rc_v rfl (by rw [N.eq]))⟩
      have := run_equal_bool (P := P) w _ A B (boolT_some hT)
      simp only [execOp, hop, e1, e2]
      simp [eqGuard, binOp, this]
    · exact h.elim
  | eqs hT hx hy =>
    simp only [vs] at h
    split at h
    · rename_i A B h1 h2
      have e1 := (ev_v hst hx h1).1
      have e2 := (ev_v hst hy h2).1
      refine ⟨_, h, gives_same hst (y := .bool (A.toList == B.toList)) ?_ (rc_v rfl (by rw [N.eq]))⟩
      simp [execOp, hop, e1, e2, eqGuard, binOp, Op.stringOp]
    · exact h.elim
  | nes hT hx hy =>
    simp only [vs] at h
    split at h
    · rename_i A B h1 h2
      have e1 := (ev_v hst hx h1).1
      have e2 := (ev_v hst hy h2).1
      refine ⟨_, h, gives_same hst (y := .bool (!(A.toList == B.toList))) ?_ (rc_v rfl (by rw [N.eq]))⟩
      simp [execOp, hop, e1, e2, eqGuard, binOp, Op.stringOp]
    · exact h.elim
  | @eqn T x T' x' hT hx =>
    have fin : ∀ p : Option Addr, a.eval x = .pointer p → (execOp a.eval o).run P w = .ok (.value (.bool p.isNone)) w := fun p hp => by
      have := run_equal_pointer_nil (P := P) w T p (ptrT_some hT)
      have hc : a.eval (.const (.pointer none)) = .pointer none := rfl
      simp only [execOp, hop, hp, hc]
      simp [eqGuard, binOp, this]
    simp only [vs] at h
    split at h
    · rename_i hi
      exact ⟨_, h, gives_same hst (fin none (ev_v hst hx hi).1) (rc_v rfl rfl)⟩
    · rename_i i o' hi
      obtain ⟨b, _, hxe⟩ := rc_p (ev_c hst hx hi)
      exact ⟨_, h, gives_same hst (fin _ hxe) (rc_v rfl rfl)⟩
    · rename_i k hi
      obtain ⟨m, him⟩ := rc_im (ev_c hst hx hi)
      split at h
      · rename_i hp
        obtain ⟨b, of, hxe⟩ := im_ptr him hp
        exact ⟨_, h, gives_same hst (fin _ hxe) (rc_v rfl rfl)⟩
      · exact h.elim
    · exact h.elim
  | @nen T x T' x' hT hx =>
    have fin : ∀ p : Option Addr, a.eval x = .pointer p → (execOp a.eval o).run P w = .ok (.value (.bool (!p.isNone))) w := fun p hp => by
      have := run_equal_pointer_nil (P := P) w T p (ptrT_some hT)
      have hc : a.eval (.const (.pointer none)) = .pointer none := rfl
      simp only [execOp, hop, hp, hc]
      simp [eqGuard, binOp, this]
    simp only [vs] at h
    split at h
    · rename_i hi
      exact ⟨_, h, gives_same hst (fin none (ev_v hst hx hi).1) (rc_v rfl rfl)⟩
    · rename_i i o' hi
      obtain ⟨b, _, hxe⟩ := rc_p (ev_c hst hx hi)
      exact ⟨_, h, gives_same hst (fin _ hxe) (rc_v rfl rfl)⟩
    · rename_i k hi
      obtain ⟨m, him⟩ := rc_im (ev_c hst hx hi)
      split at h
      · rename_i hp
        obtain ⟨b, of, hxe⟩ := im_ptr him hp
        exact ⟨_, h, gives_same hst (fin _ hxe) (rc_v rfl rfl)⟩
      · exact h.elim
    · exact h.elim
  | nt hx =>
    simp only [vs] at h
    split at h
    · rename_i b hb
      have hb' := (ev_v hst hx hb).1
      refine ⟨_, h, gives_same (y := .bool (!b)) hst (by simp [execOp, hop, hb', Op.unary]) (rc_v rfl (by cases b <;> rfl))⟩
    · exact h.elim
  | @cv s d x y k hs hd hx =>
    simp only [vs] at h
    split at h
    · rename_i k' A hA
      have e1 := (ev_v hst hx hA).1
      refine ⟨_, h, gives_same (y := .int k (k.wrap A)) hst ?_ (rc_v rfl (by rw [N.eq]))⟩
      obtain ⟨ds, hds⟩ := Option.isSome_iff_exists.1 hs
      simp only [execOp, hop, e1]
      simp only [Sem.run_bind, convert, run_underlying hds, run_underlying (intT_some hd), Result.andThen_ok]
      cases ds <;> rfl
    · exact h.elim
  | @b2s s d e x y hs he hd hx =>
    simp only [vs] at h
    split at h
    · rename_i k hk
      split at h
      · rename_i l hl
        obtain ⟨m, him⟩ := rc_im (ev_c hst hx hk)
        obtain ⟨b1, b2, b3⟩ := D.bts_law k l hl
        obtain ⟨ad, c, hxe, _, _, hcells⟩ := im_slice him b1
        have hlen : D.len k = l.length := by
          have := D.flat_len k
          rw [b3, b2] at this
          simp at this
          exact this.symm
        refine ⟨_, h, gives_same (y := .string ⟨(l.map fun n => UInt8.ofNat n.toNat).toArray⟩) hst ?_ (rc_v rfl (by rw [N.eq]))⟩
        simp only [execOp, hop, hxe]
        simp only [Sem.run_bind, run_convert_bytes_string (P := P) w s d e ad _ c (slE_some hs) (intT_some he) (strT_some hd)]
        rcases hcells with h0 | ⟨b, off, rfl, _, _, hcc⟩
        · have hl0 : l = [] := List.eq_nil_of_length_eq_zero (by rw [← hlen]; exact h0)
          subst hl0
          cases ad with
          | none => simp [Conv.bytesToString]; rfl
          | some ad =>
            rw [h0]
            have := run_bytesToString (P := P) w ad 0 c [] (by simp [loadCells, loadCellsFrom])
            rw [this]; rfl
        · rw [b3] at hcc
          have := run_bytesToString (P := P) w ⟨b, off, none⟩ l.length c l (bytes_of (D := D) hcc)
          rw [hlen, this, fold_bytes]
          simp [ByteArray.empty, ByteArray.emptyWithCapacity]
          rfl
      · exact h.elim
    · exact h.elim
  | mkf0 => exact ⟨_, h, gives_same hst (by simp [execOp, hop, Instr.makeFunc]; rfl) ⟨0, by simp [RC]⟩⟩
  | @mkf1 f x y hx =>
    simp only [vs] at h
    split at h
    · rename_i k hk
      obtain ⟨m, him⟩ := rc_im (ev_c hst hx hk)
      exact ⟨_, h, gives_same (y := .func (.func f) #[a.eval x] #[]) hst (by simp [execOp, hop, Instr.makeFunc]) ⟨m + 1, _, him, rfl⟩⟩
    · exact h.elim
  | mks _ _ _ _ _ => exact h.elim
  | @slc T e x lo hi x' lo' hi' sz hT hs hx hlo hhi =>
    simp only [vs] at h
    split at h
    · rename_i k hk
      split at h
      · rename_i A B hp hsz hA hB
        have hsz := eqn_true hsz
        split at h
        · rename_i k' hsub
          obtain ⟨hb, hwf, hq⟩ := h
          have hb := thp hb
          have hwf := thp hwf
          rw [N.eq, N.eq] at hsub
          obtain ⟨m, him⟩ := rc_im (ev_c hst hx hk)
          obtain ⟨ad, c, hxe, hc1, hc2, hcells⟩ := im_slice him hp
          obtain ⟨s1, s2, s3, s4⟩ := D.sub_law k _ _ k' hsub hp (by omega) (by omega)
          have hrun : (execOp a.eval o).run P w = .ok (.value (sliced ad A.toNat B.toNat c sz)) w := by
            have hTe : P.underlying T = some (.slice (P.elem T)) := by rw [slE_some hT]; simp [Program.elem, slE_some hT]
            have hel : P.elem T = e := by simp [Program.elem, slE_some hT]
            have hsl := fun lo hi => run_sliceAt_slice (P := P) w T (.slice ad (D.len k) c) lo hi none hTe
            cases hlo with
            | none =>
              simp only [optI] at hA; injection hA with hA; subst hA
              cases hhi with
              | none =>
                simp only [optI] at hB; injection hB with hB; rw [N.eq] at hB; subst hB
                simp [execOp, hop, hxe, hsl, run_slice_all (P := P) w T ad (D.len k) c hTe, hel, run_sizeOf' hs]
              | some hy =>
                simp only [optI] at hB
                split at hB
                · rename_i kk BB hBB
                  injection hB with hB; subst hB
                  have := run_slice_h (P := P) w T ad (D.len k) c hTe kk BB (by omega) (by omega)
                  simp [execOp, hop, hxe, hsl, (ev_v hst hy hBB).1, this, hel, run_sizeOf' hs]
                · cases hB
            | some hl =>
              simp only [optI] at hA
              split at hA
              · rename_i kk AA hAA
                injection hA with hA; subst hA
                cases hhi with
                | none =>
                  simp only [optI] at hB; injection hB with hB; rw [N.eq] at hB; subst hB
                  have := run_slice_l (P := P) w T ad (D.len k) c hTe kk AA (by omega) (by omega)
                  simp [execOp, hop, hxe, hsl, (ev_v hst hl hAA).1, this, hel, run_sizeOf' hs]
                | some hy =>
                  simp only [optI] at hB
                  split at hB
                  · rename_i kk2 BB hBB
                    injection hB with hB; subst hB
                    have := run_slice_lh (P := P) w T ad (D.len k) c hTe kk kk2 AA BB (by omega) (by omega) (by omega)
                    simp [execOp, hop, hxe, hsl, (ev_v hst hl hAA).1, (ev_v hst hy hBB).1, this, hel, run_sizeOf' hs]
                  · cases hB
              · cases hA
          refine ⟨_, hq, gives_same hst hrun ⟨m + 1, hwf, ?_, ?_⟩⟩
          · rw [s1, s3]; exact ⟨_, _, rfl, by omega, by omega⟩
          · rw [s3]
            rcases Nat.eq_zero_or_pos (B.toNat - A.toNat) with h0 | h0
            · exact .inl h0
            · rcases hcells with h1 | ⟨b, off, rfl, k1, k2, k3⟩
              · omega
              · refine .inr ⟨b, off + A.toNat * D.sz k, ?_, k1, k2, fun m' x hx => ?_⟩
                · have : ¬ c = A.toNat := by omega
                  simp only [sliced, if_neg this, Option.map_some, vbase, add_addr, hsz]
                · rw [s4, List.getElem?_take] at hx
                  split at hx
                  · rw [List.getElem?_drop] at hx
                    obtain ⟨y, y1, y2⟩ := k3 _ x hx
                    exact ⟨y, by rw [← y1]; congr 2; omega, y2⟩
                  · cases hx
        · exact h.elim
      · exact h.elim
    · exact h.elim
  | @fad T x x' i off n hf hx =>
    simp only [vs] at h
    have fin : ∀ ad : Addr, a.eval x = .pointer (some ad) → (execOp a.eval o).run P w = .ok (.value (.pointer (some (ad.add off)))) w := fun ad he => by
      simp [execOp, hop, he, fldT_run hf]
    split at h
    · rename_i i o' hi
      obtain ⟨b, hv, hxe⟩ := rc_p (ev_c hst hx hi)
      exact ⟨_, h, gives_same hst (fin _ hxe) ⟨0, b, hv, by rw [add_addr]⟩⟩
    · rename_i k n j hi
      obtain ⟨hn, s, b, of, m, him, hb, hxe⟩ := rc_ip (ev_c hst hx hi)
      exact ⟨_, h, gives_same hst (fin _ hxe) ⟨m + 1, hn, s, b, of, him, hb, by rw [add_addr]; simp only [Nat.add_assoc]⟩⟩
    · rename_i i s n j hi
      obtain ⟨v, b, hv, hvb, hxe⟩ := rc_pr (ev_c hst hx hi)
      exact ⟨_, h, gives_same hst (fin _ hxe) ⟨0, v, b, hv, hvb, by rw [add_addr]; simp only [Nat.add_assoc]⟩⟩
    · rename_i k hi
      obtain ⟨m, him⟩ := rc_im (ev_c hst hx hi)
      split at h
      · rename_i hp
        obtain ⟨b, of, hxe⟩ := im_ptr him hp
        exact ⟨_, h, gives_same hst (fin _ hxe) ⟨m + 1, by rw [D.ptr_len k hp]; exact Nat.zero_lt_one, a.eval x, b, of, him, by rw [hxe]; rfl, by rw [add_addr]; simp⟩⟩
      · exact h.elim
    · exact h.elim
  | @iad T x y x' y' sz an hT hx hy =>
    have frow : ∀ (b of l c : Nat) (k : IntKind) (A : Int), a.eval x = .slice (some ⟨b, of, none⟩) l c → a.eval y = .int k A → an = 0 → 0 ≤ A → A < (l : Int) → (execOp a.eval o).run P w = .ok (.value (.pointer (some ⟨b, of + A.toNat * sz, none⟩))) w := by
      intro b of l c k A h1 h2 h0 h3 h4
      have hT' := hT
      unfold ixT at hT'
      split at hT'
      · rename_i e he
        simp [execOp, hop, h1, h2, run_iad_slice (P := P) (w := w) hT h3 h4 e he]
      · rename_i n e he
        split at hT'
        · rename_i s h5 h6
          have h5 := len_true h5
          injection hT' with hT'; injection hT' with e1 e2; omega
        · cases hT'
      · cases hT'
    simp only [vs] at h
    split at h
    · rename_i k k' A h1 h2
      split at h
      · rename_i hp hsz han
        have hsz := eqn_true hsz
        have han := eqn_true han
        obtain ⟨hb, hq⟩ := h
        have hb := thp hb
        obtain ⟨m, him⟩ := rc_im (ev_c hst hx h1)
        obtain ⟨ad, c, hxe, _, _, hcells⟩ := im_slice him hp
        have e2 := (ev_v hst hy h2).1
        rcases hcells with h0 | ⟨b, off, rfl, _⟩
        · rw [h0] at hb; omega
        · refine ⟨_, hq, gives_same hst (frow b off _ c _ A hxe e2 han hb.1 hb.2) ⟨m + 1, ?_, a.eval x, b, off, him, by rw [hxe]; rfl, ?_⟩⟩
          · rw [N.eq]; omega
          · rw [N.eq, hsz]; rfl
      · exact h.elim
    · rename_i i k' A h1 h2
      split at h
      · rename_i e k hob
        split at h
        · rename_i hsz han
          have hsz := eqn_true hsz
          have han := eqn_true han
          obtain ⟨hb, hq⟩ := h
          have hb := thp hb
          have e2 := (ev_v hst hy h2).1
          obtain ⟨hv, _⟩ := rc_row (ev_c hst hx h1)
          obtain ⟨v, hv', _, _, xs, hown, _⟩ := hst.hpval hob
          rw [hv] at hv'; injection hv' with hv'
          rcases hown.2 with ⟨_, h0⟩ | ⟨g, cap, cur, hs, _⟩
          · rw [h0] at hb; omega
          · rw [← hv'] at hs
            refine ⟨_, hq, gives_same hst (frow g 0 _ cap _ A hs e2 han hb.1 hb.2) ⟨0, a.eval x, g, hv, by rw [hs]; rfl, ?_⟩⟩
            rw [N.eq]; simp
        · exact h.elim
      · exact h.elim
    · rename_i i k' A h1 h2
      split at h
      · rename_i e k hob
        split at h
        · rename_i hsz
          have hsz := eqn_true hsz
          obtain ⟨hb, hq⟩ := h
          have hb := thp hb
          have e2 := (ev_v hst hy h2).1
          obtain ⟨b, hv, hxe⟩ := rc_p (ev_c hst hx h1)
          refine ⟨_, hq, gives_same (y := .pointer (some ⟨b, 0 + A.toNat * sz, none⟩)) hst ?_ ⟨0, _, b, hv, rfl, by rw [N.eq]; simp⟩⟩
          simp [execOp, hop, hxe, e2, run_iad_arr (P := P) (w := w) hT hb.1 hb.2]
        · exact h.elim
      · exact h.elim
    · exact h.elim
  | @ext x y i hx =>
    simp only [vs] at h
    split at h
    · rename_i xs hxs
      have hr := ev_rel hst hx
      rw [hxs] at hr
      obtain ⟨us, he, hl, hr⟩ := hr
      rw [dr_eq] at h
      split at h
      · rename_i b r hb
        have hb0 : xs[i]? = some b := by
          have := congrArg (·[0]?) hb
          simpa [List.getElem?_drop] using this
        obtain ⟨y, hy, hry⟩ := hr i b hb0
        exact ⟨_, h, gives_same (y := y) hst (by simp [execOp, hop, he, Instr.extract, hy]) hry⟩
      · exact h.elim
    · exact h.elim
  | @call f xs ts f' ys hf hxs =>
    simp only [vs] at h
    split at h
    · rename_i n bk hn
      have hfn := ev_c hst hf hn
      split at h
      · rename_i s hs
        split at h
        · rename_i l hl
          split at h
          · rename_i pre r har hsp
            have har := lenB_eq har
            obtain ⟨hpre, hq⟩ := h
            have hm := hR n s hs
            have hevs : ∀ {x x'}, CO x x' → RA D.toDom val (okS w0.heap.size okc st.hp val) w (ev st x') (a.eval x) := fun h => ev_rel hst h
            cases bk with
            | none =>
              have hfe : a.eval f = .func (.func n) #[] #[] := by
                obtain ⟨m, hm⟩ := hfn
                cases m <;> (simpa [RC] using hm)
              have hargs := args_rel (D := D.toDom) hevs hxs hm.2.1 hl
              refine gives_call hst hm ?_ hargs har hsp hpre hq
              simp only [execOp, hop, resolve, hfe, Deferred.ofValue, invoke, Sem.run_bind, Sem.run_pure, Result.andThen_ok]
              congr 2
              apply Array.ext'
              simp
            | some k =>
              have hfe : ∃ m s, Im D.toDom (okS w0.heap.size okc st.hp val) w (RC D.toDom (okS w0.heap.size okc st.hp val) w m fun _ => none) k s ∧ a.eval f = .func (.func n) #[s] #[] := by
                obtain ⟨m, hm⟩ := hfn
                cases m with
                | zero => exact hm.elim
                | succ m => obtain ⟨s, h1, h2⟩ := hm; exact ⟨m, s, h1, h2⟩
              obtain ⟨m, sv, him, hfe⟩ := hfe
              have hargs := args_rel (D := D.toDom) hevs hxs (nks := nkT s.nk) (fun k hk => hm.2.1 k (by
                cases hnk : s.nk with
                | nil => rw [hnk] at hk; cases hk
                | cons n m => rw [hnk] at hk; exact List.mem_cons_of_mem _ hk)) hl
              have hargs2 : RBs D.toDom (okS w0.heap.size okc st.hp val) w (.c (.im k) :: l) (sv :: xs.toList.map a.eval) := by
                refine ⟨by simp [hargs.1], fun j x hx => ?_⟩
                cases j with
                | zero => simp at hx; subst hx; exact ⟨sv, rfl, m + 1, him⟩
                | succ j => simpa using hargs.2 j x (by simpa using hx)
              refine gives_call hst hm ?_ hargs2 har hsp hpre hq
              simp only [execOp, hop, resolve, hfe, Deferred.ofValue, invoke, Sem.run_bind, Sem.run_pure, Result.andThen_ok]
              congr 2
              apply Array.ext'
              simp
          · exact h.elim
        · exact h.elim
      · exact h.elim
    · exact h.elim
  | @len x y T e hT hx =>
    have fin : ∀ ad n c, a.eval x = .slice ad n c → (execOp a.eval o).run P w = .ok (.value (.int .i64 (n : Int))) w := by
      intro ad n c he
      simp [execOp, hop, resolve, invoke, builtin, Builtin.len_, he, run_underlying (slE_some hT), goInt]
    simp only [vs] at h
    split at h
    · rename_i k hk
      split at h
      · rename_i hp
        obtain ⟨m, him⟩ := rc_im (ev_c hst hx hk)
        obtain ⟨ad, c, hxe, _⟩ := im_slice him hp
        exact ⟨_, h, gives_same hst (fin _ _ _ hxe) (rc_v rfl (by rw [N.eq]))⟩
      · exact h.elim
    · rename_i i hk
      split at h
      · rename_i e' k hob
        obtain ⟨hv, _⟩ := rc_row (ev_c hst hx hk)
        obtain ⟨v, hv', _, _, xs, hown, _⟩ := hst.hpval hob
        rw [hv] at hv'; injection hv' with hv'
        rcases hown.2 with ⟨hs, h0⟩ | ⟨g, cap, cur, hs, _⟩
        · rw [← hv'] at hs
          exact ⟨_, h, gives_same hst (fin _ _ _ hs) (rc_v rfl (by rw [N.eq, h0]))⟩
        · rw [← hv'] at hs
          exact ⟨_, h, gives_same hst (fin _ _ _ hs) (rc_v rfl (by rw [N.eq]))⟩
      · exact h.elim
    · rename_i hk
      exact ⟨_, h, gives_same hst (fin _ _ _ (ev_v hst hx hk).1) (rc_v rfl rfl)⟩
    · exact h.elim
  | app _ _ _ _ _ _ _ => exact h.elim
  | callm _ _ => exact h.elim
  | inv _ _ _ => exact h.elim
  | @mki T x y hT hx =>
    have hrun : (execOp a.eval o).run P w = .ok (.value (.iface T (a.eval x))) w := by
      unfold notIfc at hT
      cases hu : P.underlying T with
      | none => rw [hu] at hT; cases hT
      | some d =>
        rw [hu] at hT
        cases d <;> first | exact absurd hT Bool.false_ne_true | simp [execOp, hop, Instr.makeInterface, run_underlying hu]
    simp only [vs] at h
    split at h
    · rename_i i of hk
      obtain ⟨b, h1, h2⟩ := rc_p (ev_c hst hx hk)
      exact ⟨_, h, gives_same hst hrun ⟨0, b, h1, by rw [h2]⟩⟩
    · rename_i cs hk
      split at h
      · rename_i us hus
        obtain ⟨us', h1, h2⟩ := ev_b hst hx hk
        have : us' = us := valsOf_rel hus h2
        subst this
        exact ⟨_, h, gives_same hst hrun ⟨0, by rw [h1], rfl⟩⟩
      · exact h.elim
    · exact h.elim
  | @tas T U x y hT hx =>
    simp only [vs] at h
    split at h
    · rename_i V us hk
      split at h
      · rename_i h1 h2
        have h1 := eqn_true h1
        subst h1
        have he := (ev_v hst hx hk).1
        have hrun : (execOp a.eval o).run P w = .ok (.value (.tuple #[.agg ⟨us⟩, .bool true])) w := by
          unfold notIfc at hT
          cases hu : P.underlying V with
          | none => rw [hu] at hT; cases hT
          | some d =>
            rw [hu] at hT
            cases d <;> first | exact absurd hT Bool.false_ne_true | simp [execOp, hop, Instr.typeAssert, run_underlying hu, he]
        refine ⟨_, h, gives_same hst hrun ⟨[.agg ⟨us⟩, .bool true], rfl, rfl, fun j z hz => ?_⟩⟩
        match j, hz with
        | 0, hz =>
          simp at hz; subst hz
          refine ⟨_, rfl, us, rfl, by simp, fun j z hz => ?_⟩
          rw [List.getElem?_map] at hz
          obtain ⟨u, hu, rfl⟩ := Option.map_eq_some_iff.1 hz
          exact ⟨u, hu, 0, rfl, ones_all h2 u (List.mem_of_getElem? hu)⟩
        | 1, hz => simp at hz; subst hz; exact ⟨_, rfl, 0, rfl, rfl⟩
        | j + 2, hz => simp at hz
      · exact h.elim
    · exact h.elim
  | mx hx hy =>
    simp only [vs] at h
    split at h
    · rename_i k A k' B h1 h2
      have e1 := (ev_v hst hx h1).1
      have e2 := (ev_v hst hy h2).1
      refine ⟨_, h, gives_same (y := .int k (if B > A then B else A)) hst ?_ (rc_v rfl (by rw [N.eq]))⟩
      simp [execOp, hop, resolve, invoke, builtin, Builtin.max_, e1, e2, Builtin.max2]
    · exact h.elim
  | mn hx hy =>
    simp only [vs] at h
    split at h
    · rename_i k A k' B h1 h2
      have e1 := (ev_v hst hx h1).1
      have e2 := (ev_v hst hy h2).1
      refine ⟨_, h, gives_same (y := .int k (if B < A then B else A)) hst ?_ (rc_v rfl (by rw [N.eq]))⟩
      simp [execOp, hop, resolve, invoke, builtin, Builtin.min_, e1, e2, Builtin.min2]
    · exact h.elim
end
end Go.Sy
