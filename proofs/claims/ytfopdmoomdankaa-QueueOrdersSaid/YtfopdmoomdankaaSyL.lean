/- New objects, stores, appends: what they do, and that the machine does so. -/
import Derived.Test.YtfopdmoomdankaaSyK
set_option linter.unusedVariables false
set_option linter.unusedSimpArgs false
namespace Go.Sy
open Go

section
variable {K : Type} (N : Hide) (D : Dx K) (R : List (Nat × Sp K))

def objA (ob : Ob K) (d : Nat) : A K := match ob with | .box _ _ => .b (.c (.p d 0)) | .arr _ _ => .b (.c (.p d 0)) | .row _ _ => .b (.c (.row d))
def fresh (st : St K) (d : Nat) : St K := match lk st.hp d with | none => st | some _ => st.sub d (kC d)

def os (st : St K) (q : Ob K → Prop) : I → Prop
  | .box T x => match ev st x with | .b b => q (.box T b.cells) | _ => False
  | .alloc T => match D.zobj T with | some ob => q ob | none => False
  | .bsl own e sz ps => match own with
    | true => (match rowsOf st sz ps with
      | some ls => (match D.ofE e ls with | some k => (N.th fun _ => D.wf k) ∧ q (.row e k) | none => False)
      | none => False)
    | false => False
  | .mks e sz by_ l c => match ev st l, ev st c with
    | .b (.c (.v (.int _ a))), .b (.c (.v (.int _ b))) => (match D.zeros e (N.th fun _ => a.toNat), lenB (D.zc e) sz with
      | some k, true => (N.th fun _ => 0 ≤ a ∧ a ≤ b ∧ (by_ : Int) * b ≤ 281474976710656 ∧ b ≤ 9223372036854775807) ∧ (N.th fun _ => D.wf k) ∧ q (.row e k)
      | _, _ => False)
    | _, _ => False
  | _ => False

def es (d : Option Nat) (st : St K) (q : St K → Prop) : I → Prop
  | .sto sz x y => match ev st x, ev st y with
    | .b (.c (.p i o)), .b b => (match lk st.hp i with
      | some (.box T cs) => (match lenB b.cells sz, len (o + sz) cs.length with
        | true, true => q { sl := st.sl, hp := (i, .box T (cat2 (tk o cs) (cat2 b.cells (dr (o + sz) cs)))) :: st.hp }
        | _, _ => False)
      | _ => False)
    | .b (.c (.pr i s n j)), .b b => (match allClo b.cells, lenB b.cells sz with
      | true, true => (match lk st.hp i with
        | some (.row e k) => (match eqn s (D.sz k), len (j + sz) s, D.set k n j b.cells with
          | true, true, some k' => (N.th fun _ => n < D.len k) ∧ (N.th fun _ => D.wf k') ∧ q { sl := st.sl, hp := (i, .row e k') :: st.hp }
          | _, _, _ => False)
        | some (.arr e k) => (match eqn s (D.sz k), len (j + sz) s, D.set k n j b.cells with
          | true, true, some k' => (N.th fun _ => n < D.len k) ∧ (N.th fun _ => D.wf k') ∧ q { sl := st.sl, hp := (i, .arr e k') :: st.hp }
          | _, _, _ => False)
        | _ => False)
      | _, _ => False)
    | _, _ => False
  | .app e sz by_ x y => match d with
    | none => False
    | some d =>
      (match ev st x with
      | .b (.c (.row i)) =>
        (match lk st.hp i, (match ev st y with | .b (.c (.im k2)) => some k2 | _ => none) with
        | some (.row e' k), some k2 => (match eqn e e', eqn (D.sz k) sz, D.cat k k2, (match eqn d i with | true => true | false => (match lk st.hp d with | none => true | some _ => false)) with
          | true, true, some k', true => (N.th fun _ => D.len k + D.len k2 ≤ 70368744177664 ∧ (D.len k + D.len k2) * by_ ≤ 140737488355328) ∧ (N.th fun _ => D.wf k') ∧
              q { sl := (d, .b (.c (.row d))) :: mapS (A.map (kC i)) st.sl, hp := (d, .row e k') :: mapS (Ob.map (kC i)) (rem i st.hp) }
          | _, _, _, _ => False)
        | _, _ => False)
      | _ => False)
  | _ => False

/-- A nil slice in a slot is an empty row of the call's own. -/
def nilRow (st : St K) (t d : Nat) (e : TypeId) (q : St K → Prop) : Prop :=
  match ev st (.t t), lk st.hp d, D.nil e with
  | .b (.c (.v (.slice none 0 0))), none, some k => (N.th fun _ => D.wf k) ∧ q { sl := (t, .b (.c (.row d))) :: st.sl, hp := (d, .row e k) :: st.hp }
  | _, _, _ => False

/-- So is a nil slice in a variable's cell. -/
def nilB (st : St K) (x : O) (j d : Nat) (e : TypeId) (q : St K → Prop) : Prop :=
  match ev st x with
  | .b (.c (.p i o)) => (match lk st.hp i, lk st.hp d, D.nil e with
    | some (.box T cs), none, some k => (match dr (o + j) cs with
      | .v (.slice none 0 0) :: r => (N.th fun _ => D.wf k) ∧ q { sl := st.sl, hp := (i, .box T (cat2 (tk (o + j) cs) (.row d :: r))) :: (d, .row e k) :: st.hp }
      | _ => False)
    | _, _, _ => False)
  | _ => False

def frzCs : List (C K) → St K → St K
  | [], st => st
  | .row i :: r, st => frzCs r (match lk st.hp i with | some (.row _ k) => st.sub i (fC i k) | _ => st)
  | _ :: r, st => frzCs r st
def frzO (st : St K) (x : O) : St K := match ev st x with | .b b => frzCs b.cells st | _ => st
def frzs : List O → St K → St K
  | [], st => st
  | x :: r, st => frzs r (frzO st x)

end

section
variable {K : Type} {N : Hide} {P : Program} {D : Dx K} {R : List (Nat × Sp K)} {mb : Bw} {okc : Nat → Prop} {w0 w : World} {nt : Nat} {val : Nat → Option Value} {st : St K} {a : Act} {o : Oper}

/-- What an operation leaves. -/
def Leaves (P : Program) (D : Dx K) (mb : Bw) (okc : Nat → Prop) (w0 : World) (nt : Nat) (a : Act) (w : World) (o : Oper) (st' : St K) : Prop :=
  ∀ (next : Act → World → Prop) (Q : Exit → Act → World → Prop), (∀ val' a' w', Rst D.toDom mb okc w0 nt val' st' a' w' → next a' w') → o.wp P a w next Q

theorem leaves_value {st' : St K} {y : Value} {w' : World} {val' : Nat → Option Value} (hr : (execOp a.eval o).run P w = .ok (.value y) w') (h : Rst D.toDom mb okc w0 nt val' st' (a.put o.dst y) w') : Leaves P D mb okc w0 nt a w o st' :=
  fun next Q hn => wp_value hr (hn _ _ _ h)
theorem leaves_new {st' : St K} {y : Value} {w' : World} {d : Nat} (hdst : o.dst = some d) (hr : (execOp a.eval o).run P w = .ok (.value y) w') (h : Rst D.toDom mb okc w0 nt (upd val d (some y)) st' (a.put (some d) y) w') : Leaves P D mb okc w0 nt a w o st' :=
  fun next Q hn => wp_value hr (by rw [hdst]; exact hn _ _ _ h)
theorem leaves_skip {st' : St K} {w' : World} {val' : Nat → Option Value} (hr : (execOp a.eval o).run P w = .ok .skip w') (h : Rst D.toDom mb okc w0 nt val' st' (a.put o.dst undef) w') : Leaves P D mb okc w0 nt a w o st' :=
  fun next Q hn => by unfold Oper.wp; rw [hr]; exact hn _ _ _ h

theorem fresh_rst (h : Rst D.toDom mb okc w0 nt val st a w) (d : Nat) : ∃ val', Rst D.toDom mb okc w0 nt val' (fresh st d) a w ∧ lk (fresh st d).hp d = none := by
  unfold fresh
  cases hd : lk st.hp d with
  | none => exact ⟨val, h, hd⟩
  | some ob => exact ⟨_, h.drop D.toDom d, by simp only [St.sub]; rw [lk_mapS, lk_rem_same]; rfl⟩

theorem own_base {b : Nat} (h : Rst D.toDom mb okc w0 nt val st a w) {i : Nat} {ob : Ob K} {v : Value} (hi : lk st.hp i = some ob) (hv : val i = some v) (hb : vblk v = some b) : w0.heap.size ≤ b ∨ okc b := by
  obtain ⟨v', h1, _, h3⟩ := h.hp i ob hi
  rw [hv] at h1; injection h1 with h1; subst h1
  rcases (h3 b hb).2 with h4 | h4
  · exact .inr (h.bok b h4)
  · exact .inl h4

theorem frzCs_rst : ∀ (cs : List (C K)) {st : St K} {val : Nat → Option Value}, Rst D.toDom mb okc w0 nt val st a w → ∃ val', Rst D.toDom mb okc w0 nt val' (frzCs cs st) a w
  | [], st, val, h => ⟨val, h⟩
  | c :: r, st, val, h => by
    cases c with
    | row i =>
      simp only [frzCs]
      split
      · rename_i e k hi
        exact frzCs_rst r (h.freeze_row D.toDom hi fun b v hv hb hlt => (own_base h hi hv hb).resolve_left (by omega))
      · exact frzCs_rst r h
    | _ => exact frzCs_rst r h
theorem frzO_rst (h : Rst D.toDom mb okc w0 nt val st a w) (x : O) : ∃ val', Rst D.toDom mb okc w0 nt val' (frzO st x) a w := by
  unfold frzO
  split
  · exact frzCs_rst _ h
  · exact ⟨val, h⟩
theorem frzs_rst : ∀ (xs : List O) {st : St K} {val : Nat → Option Value}, Rst D.toDom mb okc w0 nt val st a w → ∃ val', Rst D.toDom mb okc w0 nt val' (frzs xs st) a w
  | [], st, val, h => ⟨val, h⟩
  | x :: r, st, val, h => by
    obtain ⟨val', h'⟩ := frzO_rst h x
    exact frzs_rst r h'

/-- A new object in a slot. -/
theorem new_obj (hst : Rst D.toDom mb okc w0 nt val st a w) {d : Nat} (hd : lk st.hp d = none) (hnt : d < nt) {ob : Ob K} {v : Value} {us : Array Value} {e : TypeId}
    (hv : vblk v = some w.heap.size)
    (hobj : match ob with | .row _ _ => ∃ n c, v = Value.slice (some ⟨w.heap.size, 0, none⟩) n c | .box _ _ => v = Value.pointer (some ⟨w.heap.size, 0, none⟩) | .arr _ _ => v = Value.pointer (some ⟨w.heap.size, 0, none⟩))
    (ho : ∀ ok' val', Mv (okS w0.heap.size okc st.hp val) ok' w (w.alloc (.cells us e)) → (∀ i v', val i = some v' → val' i = some v') → obRel D.toDom val' ok' (w.alloc (.cells us e)) ob v) :
    Rst D.toDom mb okc w0 nt (upd val d (some v)) { sl := (d, objA ob d) :: st.sl, hp := (d, ob) :: st.hp } (a.put (some d) v) (w.alloc (.cells us e)) := by
  have h1 := hst.add D.toDom hd hnt (ob := ob) (v := v) (w' := w.alloc (.cells us e)) keep_alloc (fun b hb => by rw [hv] at hb; injection hb with hb; subst hb; simp) (fun hm hval => ho _ _ hm hval)
  have := h1.put D.toDom (x := objA ob d) (y := v) ?_ (d := some d) (fun t ht => by injection ht with ht; subst ht; exact hnt)
  · exact this
  · cases ob with
    | box t cs => simp only at hobj; subst hobj; exact ⟨0, w.heap.size, upd_same _ _, rfl⟩
    | arr t k => simp only at hobj; subst hobj; exact ⟨0, w.heap.size, upd_same _ _, rfl⟩
    | row e k => simp only at hobj; obtain ⟨n, c, rfl⟩ := hobj; exact ⟨0, upd_same _ _, _, n, c, rfl⟩

theorem made_all (z : Array Value) : ∀ n : Nat, (madeCells z (n * z.size)).toList = (List.replicate n z.toList).flatten
  | 0 => by simp [madeCells]
  | n + 1 => by
    have ih := made_all z n
    simp only [madeCells, Array.toList_map, Array.toList_range] at ih ⊢
    rw [Nat.succ_mul, Nat.add_comm, List.range_add, List.map_append, List.replicate_succ, List.flatten_cons, ← ih]
    congr 1
    · apply List.ext_getElem?
      intro m
      rw [List.getElem?_map]
      by_cases hm : m < z.size
      · rw [List.getElem?_range hm]
        simp [Nat.mod_eq_of_lt hm, hm]
      · rw [List.getElem?_eq_none (by simpa using hm), List.getElem?_eq_none (by simpa using hm)]; rfl
    · rw [List.map_map]
      apply List.map_congr_left
      intro m _
      simp
theorem rep_len {α : Type} (l : List α) : ∀ n : Nat, ((List.replicate n l).flatten).length = n * l.length
  | 0 => by simp
  | n + 1 => by rw [List.replicate_succ, List.flatten_cons, List.length_append, rep_len l n, Nat.succ_mul, Nat.add_comm]
theorem made_take (z : Array Value) (A B : Nat) (h : A ≤ B) : (madeCells z (B * z.size)).toList.take (A * z.size) = (List.replicate A z.toList).flatten := by
  obtain ⟨c, rfl⟩ : ∃ c, B = A + c := ⟨B - A, by omega⟩
  rw [made_all, ← List.replicate_append_replicate, List.flatten_append]
  have h9 : ((List.replicate A z.toList).flatten).length = A * z.size := by rw [rep_len]; simp
  rw [← h9, List.take_left]
theorem rep_rel {ok : Nat → Prop} {w : World} {xs : List (C K)} {ys : List Value} (h : Rs D.toDom (fun _ => none) ok w xs ys) : ∀ n : Nat, Rs D.toDom (fun _ => none) ok w (List.replicate n xs).flatten (List.replicate n ys).flatten
  | 0 => Rs.nil _
  | n + 1 => by simp only [List.replicate_succ, List.flatten_cons]; exact h.append D.toDom (rep_rel h n)

theorem os_sound {i : I} (hD : DomOk P D) (hc : Cmp P o.op i) (hst : Rst D.toDom mb okc w0 nt val st a w) {d : Nat} (hdst : o.dst = some d) (hnt : d < nt) (hd : lk st.hp d = none) {q : Ob K → Prop} (h : os N D st q i) :
    ∃ ob, q ob ∧ Leaves P D mb okc w0 nt a w o { sl := (d, objA ob d) :: st.sl, hp := (d, ob) :: st.hp } := by
  generalize hop : o.op = op at hc
  cases hc with
  | @box T x y hx =>
    simp only [os] at h
    split at h
    · rename_i b hb
      have hr := RB.cells D.toDom (ev_b hst hx hb)
      refine ⟨_, h, leaves_new (val := val) hdst (y := .pointer (some ⟨w.heap.size, 0, none⟩)) (w' := w.alloc (.cells (a.eval x).cells T)) (by simp [execOp, hop, Instr.box, newVar, newRow]) ?_⟩
      exact new_obj hst hd hnt rfl rfl fun ok' val' hm hval => ⟨w.heap.size, _, rfl, heap_alloc_new w _, hr.map D.toDom (σ := id) (fun x y hxy => hxy.mv' D.toDom hm hval) |>.castl (by simp)⟩
    · exact h.elim
  | @alloc T =>
    simp only [os] at h
    split at h
    · rename_i ob hz
      obtain ⟨i, z, h1, h2, h3, h4⟩ := hD.zobj T ob hz
      refine ⟨_, h, leaves_new (val := val) hdst (y := .pointer (some ⟨w.heap.size, 0, none⟩)) (w' := w.alloc (.cells z.cells T)) (by simp [execOp, hop, Instr.alloc, zeroValue, typeInfo, h1, h2, newVar, newRow]) ?_⟩
      cases ob with
      | box T' cs =>
        obtain ⟨rfl, h4⟩ := h4
        exact new_obj hst hd hnt rfl rfl fun ok' val' hm hval => ⟨w.heap.size, _, rfl, heap_alloc_new w _, Rs_closed (h4 _ _) val'⟩
      | arr T' k =>
        obtain ⟨rfl, h5, h6, h7⟩ := h4
        exact new_obj hst hd hnt rfl rfl fun ok' val' hm hval => ⟨h5, h6, w.heap.size, _, rfl, heap_alloc_new w _, h7 _ _⟩
      | row e k => exact h4.elim
    · exact h.elim
  | @bsl T e n ps xs ys own sz hT hs hsz hzt hn hle he hxs =>
    simp only [os] at h
    subst hn
    cases own with
    | false => exact h.elim
    | true =>
      simp only at h
      split at h
      · rename_i ls hls
        split at h
        · rename_i k hk
          obtain ⟨hwf, hq⟩ := h
          have hwf := thp hwf
          obtain ⟨hp, hlen, hfl⟩ := D.ofE_law e ls k hk
          obtain ⟨r1, r2, r3⟩ := rows_rel (fun h => ev_rel hst h) hxs hls
          have hlen2 := elemAt_len he
          have hlx : ps.size = xs.length := by simpa using hlen2
          have hszz : ∀ x ∈ xs, (a.eval x).cells.size = sz := by
            intro x hx
            obtain ⟨j, hj⟩ := List.mem_iff_getElem?.1 hx
            have hjl : j < ls.length := by
              have := (List.getElem?_eq_some_iff.1 hj).1; omega
            have h9 := r3 j _ x (List.getElem?_eq_getElem hjl) hj
            have h8 := (r2 _ (List.getElem_mem hjl)).2
            have h7 := h9.1
            rw [h8] at h7; simpa using h7.symm
          have hzero : ps.size * sz = 0 ∨ ∃ i z, P.info? e = some i ∧ i.zero = some z := by
            unfold zT at hzt
            cases hi : P.info? e with
            | none => simp [hi] at hzt
            | some i =>
              simp only [hi] at hzt
              obtain ⟨z, hz⟩ := Option.isSome_iff_exists.1 hzt
              exact .inr ⟨i, z, rfl, hz⟩
          obtain ⟨us, hus, hrun⟩ := run_bsl (P := P) (w := w) (a := a) (o := o) hT hs hle he hszz hop hzero
          have hrs : Rs D.toDom val (okS w0.heap.size okc st.hp val) w (D.flat k) us.toList := by
            rw [hfl, hus]
            refine (rows_flat (vs := xs.map a.eval) (by simpa using r1) fun j l v hj hv => ?_).cast (by simp [Function.comp_def])
            rw [List.getElem?_map] at hv
            obtain ⟨x, hx, rfl⟩ := Option.map_eq_some_iff.1 hv
            exact r3 j l x hj hx
          have hflen : (D.flat k).length = ps.size * sz := by
            have := hrs.1
            rw [this, hus]
            have : ∀ l : List Operand, (∀ x ∈ l, (a.eval x).cells.size = sz) → ((l.map fun x => (a.eval x).cells.toList).flatten).length = l.length * sz := by
              intro l
              induction l with
              | nil => simp
              | cons x l ih => intro hl; simp [ih (fun y hy => hl y (by simp [hy])), hl x (by simp), Nat.add_mul, Nat.add_comm]
            rw [this xs hszz, hlx]
          refine ⟨_, hq, leaves_new (val := val) hdst hrun ?_⟩
          refine new_obj (ob := .row e k) hst hd hnt rfl ⟨_, _, rfl⟩ fun ok' val' hm hval => ⟨hp, hwf, us.toList, ?_, ?_⟩
          · have hmx : ps.size ≤ maxLen := by
              have : ps.size * 1 ≤ ps.size * sz := Nat.mul_le_mul_left _ hsz
              simp only [maxLen]; omega
            have hls : D.len k = ps.size := by omega
            rw [hls]
            exact World.ownsRow_lit w us ps.size (Nat.zero_le _) hmx (by
              have := D.flat_len k
              rw [hls] at this
              have h2 := hrs.1
              rw [this] at h2
              simpa using h2.symm)
          · refine hrs.mv D.toDom hm fun i hi => ?_
            obtain ⟨x, hx, hh⟩ := List.any_eq_true.1 hi
            rw [hfl] at hx
            rw [clo_has (allClo_flat (fun l hl => (r2 l hl).1) x hx) i] at hh; cases hh
        · exact h.elim
      · exact h.elim
  | @mks T e l c l' c' sz by_ hT hs hby hl hcc =>
    simp only [os] at h
    split at h
    · rename_i k1 A k2 B hA hB
      split at h
      · rename_i k hk hzl
        obtain ⟨hb, hwf, hq⟩ := h
        have hb := thp hb
        have hwf := thp hwf
        rw [N.eq] at hk
        have hzl := lenB_eq hzl
        obtain ⟨z1, z2, z3, z4⟩ := D.zeros_law e _ k hk
        obtain ⟨i, z, h1, h2, h3, h4⟩ := hD.zc e _ k hk
        have hbytes : (i.bytes : Int) * B ≤ 281474976710656 := by
          unfold byT at hby
          rw [h1] at hby
          simp only [Option.map_some, Option.some.injEq] at hby
          rw [hby]; exact hb.2.2.1
        have hrun := run_make (P := P) w T e i z (slE_some hT) h1 h2 k1 k2 A B hb.1 hb.2.1 hbytes hb.2.2.2
        have hsi : i.size = sz := by
          unfold szT at hs
          rw [h1] at hs
          simpa using hs
        refine ⟨_, hq, leaves_new (val := val) hdst (y := .slice (some ⟨w.heap.size, 0, none⟩) A.toNat B.toNat) (w' := w.alloc (.cells (madeCells z.cells (B.toNat * i.size)) e)) (by simp only [execOp, hop, (ev_v hst hl hA).1, (ev_v hst hcc hB).1, Sem.run_bind, hrun, Result.andThen_ok]; rfl) ?_⟩
        refine new_obj (ob := .row e k) hst hd hnt rfl ⟨_, _, rfl⟩ fun ok' val' hm hval => ⟨z1, hwf, (madeCells z.cells (B.toNat * i.size)).toList.take (A.toNat * D.sz k), ?_, ?_⟩
        · have hsk : D.sz k = i.size := by omega
          have hAB : A.toNat * D.sz k ≤ B.toNat * i.size := by rw [hsk]; exact Nat.mul_le_mul_right _ (by omega)
          refine ⟨by rw [z2, List.length_take]; have := size_madeCells z.cells (B.toNat * i.size); simp only [Array.length_toList, this]; omega, .inr ⟨w.heap.size, B.toNat, _, by rw [z2], Nat.zero_le _, heap_alloc_new w _, by omega, by simp only [maxLen]; omega, by rw [size_madeCells, hsk], by rw [z2]⟩⟩
        · have hsk : D.sz k = i.size := by omega
          rw [z4, hsk, h3, made_take _ _ _ (by omega)]
          exact rep_rel (h4 _ _) _
      · exact h.elim
    · exact h.elim
  | _ => exact h.elim
end
end Go.Sy
