/- Parts Ps, Po, joined. No condition. -/
import Derived.Test.YtblikpbaeippaaaM0F
import Derived.WalkLawsBesides
import Derived.WalkSpells
/- The logic's rules hold: of operations, of regions, of code, of calls. No condition. -/
namespace Go.Proofs.Ytblikpbaeippaaa.Px
set_option linter.unusedVariables false
set_option linter.unusedSimpArgs false
open Go.RowKit

section
variable {P : Program} {w0 : World} {N : Nat} {o : Oper} {f : Fr} {h : PH} {K : Fr → PH → Prop}

theorem zip_parts {f : Fr} {a : Act} {N : Nat} (s : FSat f a N) {parts : Array (Nat × Operand)} {vs : List Value} (e : evs f (parts.map (·.2)) = some vs) :
    parts.map (fun p => (p.1, a.eval p.2)) = ((parts.toList.map (·.1)).zip vs).toArray := by
  have h1 := evs_sound s e
  have h2 : vs = parts.toList.map fun p => a.eval p.2 := by
    have := congrArg Array.toList h1
    simp at this
    rw [← this]; rfl
  subst h2
  apply Array.ext'
  simp only [Array.toList_map]
  generalize parts.toList = l
  clear h1 e
  induction l with
  | nil => rfl
  | cons x l ih => simp at ih ⊢; exact ih

theorem builtin_run {m : Sem Value} {g : Value → PH → Prop} {c : Call} {b : Builtin} {vs : List Value} {a : Act} {w : World} (hb : c.callee = .builtin b) (he : c.args.map a.eval = vs.toArray) (ho : o.op = .call c)
    (hm : ∀ ks, builtin b c.argTypes o.type ks vs.toArray = (do pure (Next.value (← m)))) : (execOp a.eval o).run P w = (do pure (Next.value (← m)) : Sem Next).run P w := by
  unfold execOp
  simp only [ho, resolve, hb, invoke, Sem.run_bind, Sem.run_pure, Result.andThen_ok, he, hm]

theorem OW_bYld {m : Sem Value} {c : Call} {b : Builtin} {vs : List Value} (hd : dstOk N o.dst = true) (hb : c.callee = .builtin b) (he : evs f c.args = some vs) (ho : o.op = .call c)
    (hm : ∀ ks, builtin b c.argTypes o.type ks vs.toArray = (do pure (Next.value (← m)))) (hk : Yld P m fun r => K (f.put o.dst r) h) : OW P w0 N o f h K := by
  obtain ⟨r, h1, h2⟩ := hk
  refine OW_value (v := r) hd (fun a w fs s => ?_) h2
  rw [builtin_run (g := fun _ _ => True) hb (evs_sound fs he) ho hm]
  simp only [Sem.run_bind, h1, Result.andThen_ok, Sem.run_pure]
theorem OW_bRds {m : Sem Value} {c : Call} {b : Builtin} {vs : List Value} (hd : dstOk N o.dst = true) (hb : c.callee = .builtin b) (he : evs f c.args = some vs) (ho : o.op = .call c)
    (hm : ∀ ks, builtin b c.argTypes o.type ks vs.toArray = (do pure (Next.value (← m)))) (hk : Rds P w0 h m fun r => K (f.put o.dst r) h) : OW P w0 N o f h K := by
  obtain ⟨r, h1, h2⟩ := hk
  refine OW_value (v := r) hd (fun a w fs s => ?_) h2
  rw [builtin_run (g := fun _ _ => True) hb (evs_sound fs he) ho hm]
  simp only [Sem.run_bind, h1 w s, Result.andThen_ok, Sem.run_pure]
theorem OW_bDoes {m : Sem Value} {c : Call} {b : Builtin} {vs : List Value} (hd : dstOk N o.dst = true) (hb : c.callee = .builtin b) (he : evs f c.args = some vs) (ho : o.op = .call c)
    (hm : ∀ ks, builtin b c.argTypes o.type ks vs.toArray = (do pure (Next.value (← m)))) (hk : Does P w0 h m fun r h' => K (f.put o.dst r) h') : OW P w0 N o f h K := by
  intro a w fs s Kr Qr hK
  unfold Oper.wp
  rw [builtin_run (g := fun _ _ => True) hb (evs_sound fs he) ho hm]
  obtain ⟨v, w', h', h1, h2, h3⟩ := hk w s
  simp only [Sem.run_bind, h1, Result.andThen_ok, Sem.run_pure]
  exact hK _ _ _ _ h2 (fs.put hd v) h3

theorem vcCall_sound {c : Call} (ho : o.op = .call c) (hd : dstOk N o.dst = true) (hv : vcCall P w0 f h c o.type fun r h' => K (f.put o.dst r) h') : OW P w0 N o f h K := by
  unfold vcCall at hv
  split at hv
  · rename_i g hc
    obtain ⟨vs, h1, h2⟩ := vevs_some hv
    refine OW_calls hd (fun a w fs s => ?_) h2
    unfold execOp
    simp only [ho, resolve, hc, Act.eval, Deferred.ofValue, Sem.run_bind, Sem.run_pure, Result.andThen_ok, invoke, Array.empty_append, Array.append_empty, evs_sound fs h1]
  · rename_i x _ hc
    obtain ⟨fv, h1, h2⟩ := vev_some hv
    obtain ⟨vs, h3, h4⟩ := vevs_some h2
    split at h4
    · rename_i g first cap
      refine OW_calls hd (fun a w fs s => ?_) h4
      unfold execOp
      simp only [ho, resolve, hc, ev_sound fs h1, Deferred.ofValue, Sem.run_bind, Sem.run_pure, Result.andThen_ok, invoke, evs_sound fs h3]
      congr 2
      simp
    · exact h4.elim
  · rename_i b hc
    obtain ⟨vs, h1, h2⟩ := vevs_some hv
    split at h2
    · unfold lenK at h2
      split at h2
      · exact OW_bRds hd hc h1 ho (fun _ => rfl) h2
      · exact OW_bYld hd hc h1 ho (fun _ => rfl) h2
    · exact OW_bYld hd hc h1 ho (fun _ => rfl) h2
    · exact OW_bYld hd hc h1 ho (fun _ => rfl) h2
    · exact OW_bYld hd hc h1 ho (fun _ => rfl) h2
    · exact OW_bDoes hd hc h1 ho (fun _ => rfl) h2
    · exact OW_bDoes hd hc h1 ho (fun _ => rfl) h2
    · exact h2.elim
  · rename_i r name hc
    obtain ⟨rv, h1, h2⟩ := vev_some hv
    obtain ⟨vs, h3, h4⟩ := vevs_some h2
    obtain ⟨g, as, h5, h6⟩ := h4
    refine OW_calls hd (fun a w fs s => ?_) h6
    unfold execOp
    simp only [ho, resolve, hc, ev_sound fs h1, Sem.run_bind, Sem.run_pure, Result.andThen_ok, invoke, evs_sound fs h3]
    have := h5 w
    simpa using this


theorem fold_push (l : List UInt8) : ∀ s : ByteArray, (l.map fun c => (c.toNat : Int)).foldl (fun r n => r.push (UInt8.ofNat n.toNat)) s = ⟨s.data ++ l.toArray⟩ := by
  induction l with
  | nil => intro s; simp
  | cons c l ih =>
    intro s
    simp only [List.map_cons, List.foldl_cons, ih]
    simp [ByteArray.push]
theorem vtext_sound {s d : TypeId} {x : Value} {k : Value → Prop} (hv : vtext P w0 h s d x k) : ∃ v, k v ∧ ∀ w, Sim w0 h w → (convert s d x).run P w = .ok v w := by
  obtain ⟨e, hs, he, hd, hx⟩ := hv
  split at hx
  · exact ⟨_, hx, fun w _ => by rw [run_convert_bytes_string w s d e _ _ _ hs he hd]; simp [Conv.bytesToString]⟩
  · rename_i a n c
    obtain ⟨l, hln, h1, h2⟩ := hx
    refine ⟨_, h2, fun w sm => ?_⟩
    have h34 : (l.map fun c : UInt8 => Value.int .u8 c.toNat).length = n ∧ ∀ j v, (l.map fun c : UInt8 => Value.int .u8 c.toNat)[j]? = some v → w.cell? (a.add j) = some v := by
      rcases Nat.eq_zero_or_pos n with h0 | h0
      · have : l = [] := List.eq_nil_of_length_eq_zero (by omega)
        subst this
        exact ⟨by simpa using hln, fun j v e => by simp at e⟩
      · exact rdN_sound sm (h1 h0)
    obtain ⟨h3, h4⟩ := h34
    rw [run_convert_bytes_string w s d e _ _ _ hs he hd]
    have h5 := run_loadCells_list (P := P) w a _ h4
    rw [h3] at h5
    rw [run_bytesToString w a n c (l.map fun c => (c.toNat : Int)) (by rw [h5]; simp [List.map_map, Function.comp_def]), fold_push]
    simp [ByteArray.empty, ByteArray.emptyWithCapacity]
    rfl
  · exact hx.elim

theorem nil_run {x : Operand} {v : Value} {a : Act} {w : World} (ho : o.op = .nilCheck x) (hx : a.eval x = v) {r : Value} (hr : (nilS v).run P w = .ok r w) : (execOp a.eval o).run P w = .ok (.value r) w := by
  unfold execOp
  simp only [ho, hx]
  unfold nilS at hr
  split at hr
  · cases hr
  · cases hr
  · cases hr
  · cases hr
  · rename_i h1 h2 h3 h4
    simp only [Sem.run_pure] at hr
    injection hr with hr
    subst hr
    cases v with
    | pointer p => cases p with
      | none => exact absurd rfl h1
      | some p => rfl
    | nilIface => exact absurd rfl h2
    | nilFunc => exact absurd rfl h3
    | func fn a b => cases fn with
      | method n => exact absurd rfl (h4 n a b)
      | _ => rfl
    | _ => rfl


/-- Operations that leave memory alone. -/
def silentB (P : Program) (o : Op) : Bool := match o with
  | .move _ | .assign _ | .pick .. | .load .. | .nilCheck _ | .binOp .. | .unOp .. | .makeInterface .. | .makeFunc .. | .slice .. | .fieldAddr .. | .field .. | .indexAddr .. | .index .. | .lookup .. | .extract .. | .typeAssert .. | .build .. => true
  | .convert _ d _ => !isSliceB P d
  | .call { callee := .builtin .len, .. } | .call { callee := .builtin .cap, .. } | .call { callee := .builtin .max, .. } | .call { callee := .builtin .min, .. } => true
  | _ => false
/-- The operation yields a value, whatever the world, and does nothing else. -/
def SW (P : Program) (w0 : World) (N : Nat) (o : Oper) (f : Fr) (h : PH) (K : Fr → PH → Prop) : Prop :=
  ∃ v, K (f.put o.dst v) h ∧ ∀ a w, FSat f a N → Sim w0 h w → (execOp a.eval o).run P w = .ok (.value v) w
theorem SW.ow (hd : dstOk N o.dst = true) (hs : SW P w0 N o f h K) : OW P w0 N o f h K := by
  obtain ⟨v, h1, h2⟩ := hs
  exact OW_value hd h2 h1
theorem SW_value {v : Value} (hd : dstOk N o.dst = true) (hr : ∀ a w, FSat f a N → Sim w0 h w → (execOp a.eval o).run P w = .ok (.value v) w) (hk : K (f.put o.dst v) h) : SW P w0 N o f h K := ⟨v, hk, hr⟩
theorem SW_yld {m : Sem Value} (hd : dstOk N o.dst = true) (hr : ∀ a w, FSat f a N → Sim w0 h w → execOp a.eval o = (do pure (Next.value (← m)))) (hk : Yld P m fun r => K (f.put o.dst r) h) : SW P w0 N o f h K := by
  obtain ⟨r, h1, h2⟩ := hk
  refine ⟨r, h2, fun a w fs s => ?_⟩
  rw [hr a w fs s]
  simp only [Sem.run_bind, h1, Result.andThen_ok, Sem.run_pure]
theorem SW_rds {m : Sem Value} (hd : dstOk N o.dst = true) (hr : ∀ a w, FSat f a N → Sim w0 h w → execOp a.eval o = (do pure (Next.value (← m)))) (hk : Rds P w0 h m fun r => K (f.put o.dst r) h) : SW P w0 N o f h K := by
  obtain ⟨r, h1, h2⟩ := hk
  refine ⟨r, h2, fun a w fs s => ?_⟩
  rw [hr a w fs s]
  simp only [Sem.run_bind, h1 w s, Result.andThen_ok, Sem.run_pure]
theorem SW_bRds {m : Sem Value} {c : Call} {b : Builtin} {vs : List Value} (hb : c.callee = .builtin b) (he : evs f c.args = some vs) (ho : o.op = .call c)
    (hm : ∀ ks, builtin b c.argTypes o.type ks vs.toArray = (do pure (Next.value (← m)))) (hk : Rds P w0 h m fun r => K (f.put o.dst r) h) : SW P w0 N o f h K := by
  obtain ⟨r, h1, h2⟩ := hk
  refine ⟨r, h2, fun a w fs s => ?_⟩
  rw [builtin_run (g := fun _ _ => True) hb (evs_sound fs he) ho hm]
  simp only [Sem.run_bind, h1 w s, Result.andThen_ok, Sem.run_pure]
theorem SW_bYld {m : Sem Value} {c : Call} {b : Builtin} {vs : List Value} (hb : c.callee = .builtin b) (he : evs f c.args = some vs) (ho : o.op = .call c)
    (hm : ∀ ks, builtin b c.argTypes o.type ks vs.toArray = (do pure (Next.value (← m)))) (hk : Yld P m fun r => K (f.put o.dst r) h) : SW P w0 N o f h K := by
  obtain ⟨r, h1, h2⟩ := hk
  refine ⟨r, h2, fun a w fs s => ?_⟩
  rw [builtin_run (g := fun _ _ => True) hb (evs_sound fs he) ho hm]
  simp only [Sem.run_bind, h1, Result.andThen_ok, Sem.run_pure]

set_option maxHeartbeats 1000000 in
theorem vcOp_silent (hs : silentB P o.op = true) (hd : dstOk N o.dst = true) (hv : vcOp P w0 o f h K) : SW P w0 N o f h K := by
  unfold vcOp at hv
  cases ho : o.op
  all_goals simp only [ho] at hv
  case move x =>
    obtain ⟨v, h1, h2⟩ := vev_some hv
    exact SW_value hd (fun a w fs s => by unfold execOp; simp only [ho, ev_sound fs h1, Sem.run_pure]) h2
  case assign x =>
    obtain ⟨v, h1, h2⟩ := vev_some hv
    exact SW_value hd (fun a w fs s => by unfold execOp; simp only [ho, ev_sound fs h1, Sem.run_pure]) h2
  case pick c x y =>
    obtain ⟨t, h1, h2⟩ := vev_some hv
    obtain ⟨u, h3, h4⟩ := vev_some h2
    obtain ⟨v, h5, h6⟩ := vev_some h4
    split at h6
    · rename_i t
      refine SW_value hd (fun a w fs s => ?_) h6
      unfold execOp
      simp only [ho, ev_sound fs h1, ev_sound fs h3, ev_sound fs h5, asBool, Sem.run_bind, Sem.run_pure, Result.andThen_ok]
    · exact h6.elim
  case load t x =>
    obtain ⟨v, h1, h2⟩ := vev_some hv
    split at h2
    · rename_i a
      obtain ⟨r, h3, h4⟩ := vload_sound h2
      refine SW_value hd (fun ac w fs s => ?_) h3
      unfold execOp
      simp only [ho, ev_sound fs h1, Instr.loadAt, Instr.sureAddr, Sem.run_bind, Sem.run_pure, Result.andThen_ok, h4 w s]
    · exact h2.elim
  case nilCheck x =>
    obtain ⟨v, h1, r, h2, h3⟩ := vev_some hv
    exact SW_value hd (fun a w fs s => nil_run ho (ev_sound fs h1) (h2 w)) h3
  case binOp op t x y yt =>
    obtain ⟨u, h1, h2⟩ := vev_some hv
    obtain ⟨v, h3, h4⟩ := vev_some h2
    exact SW_yld hd (fun a w fs s => by unfold execOp; simp only [ho, ev_sound fs h1, ev_sound fs h3]; rfl) h4
  case unOp op t x =>
    obtain ⟨v, h1, h2⟩ := vev_some hv
    exact SW_yld hd (fun a w fs s => by unfold execOp; simp only [ho, ev_sound fs h1]) h2
  case makeInterface t x =>
    obtain ⟨v, h1, h2⟩ := vev_some hv
    exact SW_yld hd (fun a w fs s => by unfold execOp; simp only [ho, ev_sound fs h1]) h2
  case makeFunc fn first cap =>
    obtain ⟨u, h1, h2⟩ := vevs_some hv
    obtain ⟨v, h3, h4⟩ := vevs_some h2
    exact SW_value hd (fun a w fs s => by unfold execOp; simp only [ho, evs_sound fs h1, evs_sound fs h3, Instr.makeFunc, Sem.run_bind, Sem.run_pure, Result.andThen_ok]) h4
  case slice t x lo hi mx =>
    obtain ⟨v, h1, h2⟩ := vev_some hv
    obtain ⟨lo', l1, h2⟩ := vop_some h2
    obtain ⟨hi', l2, h2⟩ := vop_some h2
    obtain ⟨mx', l3, h2⟩ := vop_some h2
    exact SW_yld hd (fun a w fs s => by unfold execOp; simp only [ho, ev_sound fs h1, l1 fs, l2 fs, l3 fs]) h2
  case fieldAddr t x i =>
    obtain ⟨v, h1, h2⟩ := vev_some hv
    exact SW_yld hd (fun a w fs s => by unfold execOp; simp only [ho, ev_sound fs h1]) h2
  case field t x i =>
    obtain ⟨v, h1, h2⟩ := vev_some hv
    exact SW_yld hd (fun a w fs s => by unfold execOp; simp only [ho, ev_sound fs h1]) h2
  case indexAddr t x i =>
    obtain ⟨u, h1, h2⟩ := vev_some hv
    obtain ⟨v, h3, h4⟩ := vev_some h2
    exact SW_yld hd (fun a w fs s => by unfold execOp; simp only [ho, ev_sound fs h1, ev_sound fs h3]) h4
  case index t x i =>
    obtain ⟨u, h1, h2⟩ := vev_some hv
    obtain ⟨v, h3, h4⟩ := vev_some h2
    exact SW_yld hd (fun a w fs s => by unfold execOp; simp only [ho, ev_sound fs h1, ev_sound fs h3]) h4
  case lookup t x i ok =>
    obtain ⟨u, h1, h2⟩ := vev_some hv
    obtain ⟨v, h3, h4⟩ := vev_some h2
    exact SW_rds hd (fun a w fs s => by unfold execOp; simp only [ho, ev_sound fs h1, ev_sound fs h3]) h4
  case extract x i =>
    obtain ⟨v, h1, h2⟩ := vev_some hv
    split at h2
    · rename_i vs
      split at h2
      · rename_i u hu
        exact SW_value hd (fun a w fs s => by unfold execOp; simp only [ho, ev_sound fs h1, Instr.extract, hu, Sem.run_bind, Sem.run_pure, Result.andThen_ok]) h2
      · exact h2.elim
    · exact h2.elim
  case typeAssert x t u ok =>
    obtain ⟨v, h1, h2⟩ := vev_some hv
    exact SW_yld hd (fun a w fs s => by unfold execOp; simp only [ho, ev_sound fs h1]) h2
  case build t parts =>
    obtain ⟨vs, h1, h2⟩ := vevs_some hv
    exact SW_yld hd (fun a w fs s => by unfold execOp; simp only [ho, zip_parts fs h1]) h2
  case convert s d x =>
    obtain ⟨v, h1, h2⟩ := vev_some hv
    cases hsd : isSliceB P d <;> rw [hsd] at h2
    · rw [vcIf_false] at h2
      cases hss : isSliceB P s <;> rw [hss] at h2
      rotate_left
      · rw [vcIf_true] at h2
        obtain ⟨r, h3, h4⟩ := vtext_sound h2
        refine SW_value hd (fun a w fs s => ?_) h3
        unfold execOp
        simp only [ho, ev_sound fs h1, Sem.run_bind, Sem.run_pure, Result.andThen_ok, h4 w s]
      · rw [vcIf_false] at h2
        exact SW_yld hd (fun a w fs s => by unfold execOp; simp only [ho, ev_sound fs h1]) h2
    · rw [ho] at hs
      simp [silentB, hsd] at hs
  case call c =>
    rw [ho] at hs
    unfold vcCall at hv
    obtain ⟨callee, args, argTypes⟩ := c
    cases callee with
    | value x => cases hs
    | invoke r n => cases hs
    | builtin b =>
      obtain ⟨vs, h1, h2⟩ := vevs_some hv
      cases b
      case len =>
        simp only at h2
        unfold lenK at h2
        split at h2
        · exact SW_bRds rfl h1 ho (fun _ => rfl) h2
        · exact SW_bYld rfl h1 ho (fun _ => rfl) h2
      all_goals first | (exact SW_bYld rfl h1 ho (fun _ => rfl) h2) | cases hs
  all_goals (rw [ho] at hs; cases hs)

set_option maxHeartbeats 1000000 in
theorem vcOp_sound (hd : dstOk N o.dst = true) (hv : vcOp P w0 o f h K) : OW P w0 N o f h K := by
  by_cases hs : silentB P o.op = true
  · exact (vcOp_silent hs hd hv).ow hd
  unfold vcOp at hv
  cases ho : o.op
  all_goals simp only [ho] at hv
  all_goals rw [ho] at hs
  case alloc t =>
    split at hv
    · rename_i cs hz
      obtain ⟨i, hi, hz'⟩ := Option.bind_eq_some_iff.1 hz
      obtain ⟨z, hz, hc⟩ := Option.map_eq_some_iff.1 hz'
      refine OW_does (m := Instr.alloc t true (.tuple #[])) hd (fun a w fs s => by unfold execOp; simp only [ho]) (fun w s => ?_)
      refine ⟨_, _, _, ?_, hv w.heap.size s.top, s.alloc t cs⟩
      simp [Instr.alloc, zeroValue, typeInfo, hi, hz, newVar, newRow, ← hc]
    · exact hv.elim
  case box t x =>
    obtain ⟨v, h1, h2⟩ := vev_some hv
    refine OW_does (m := Instr.box t v) hd (fun a w fs s => by unfold execOp; simp only [ho, ev_sound fs h1]) (fun w s => ?_)
    refine ⟨_, _, _, ?_, h2 w.heap.size s.top, by have := s.alloc t v.cells.toList; simpa using this⟩
    simp [Instr.box, newVar, newRow]
  case store t x y =>
    obtain ⟨p, h1, h2⟩ := vev_some hv
    obtain ⟨u, h3, h4⟩ := vev_some h2
    split at h4
    · rename_i a
      obtain ⟨h', h5, h6⟩ := vstore_sound h4
      intro ac w fs s Kr Qr hK
      obtain ⟨w', h7, h8⟩ := h6 w s
      unfold Oper.wp execOp
      simp only [ho, ev_sound fs h1, ev_sound fs h3, Instr.storeAt, Instr.sureAddr, Sem.run_bind, Sem.run_pure, Result.andThen_ok, h7]
      exact hK _ _ _ _ h5 (fs.put hd _) h8
    · exact h4.elim
  case buildSlice t n parts =>
    obtain ⟨vs, h1, h2⟩ := vevs_some hv
    exact OW_does hd (fun a w fs s => by unfold execOp; simp only [ho, zip_parts fs h1]) h2
  case makeSlice t l c =>
    obtain ⟨u, h1, h2⟩ := vev_some hv
    obtain ⟨v, h3, h4⟩ := vev_some h2
    exact OW_does hd (fun a w fs s => by unfold execOp; simp only [ho, ev_sound fs h1, ev_sound fs h3]) h4
  case call c => exact vcCall_sound ho hd hv
  case makeMap t r =>
    cases r with
    | none => exact OW_does hd (fun a w fs s => by unfold execOp; simp only [ho, Option.map_none]) hv
    | some x => exact hv.elim
  case mapUpdate t x i e =>
    obtain ⟨u, h1, h2⟩ := vev_some hv
    obtain ⟨v, h3, h4⟩ := vev_some h2
    obtain ⟨r, h5, h6⟩ := vev_some h4
    intro ac w fs s Kr Qr hK
    obtain ⟨z, w', h', h7, h8, h9⟩ := h6 w s
    have h7' : (Instr.mapUpdate t u v r).run P w = .ok () w' := by
      unfold updateK at h7
      rw [Sem.run_bind] at h7
      cases hm : (Instr.mapUpdate t u v r).run P w with
      | ok a w1 => rw [hm, Result.andThen_ok, Sem.run_pure] at h7; injection h7 with _ h7; rw [h7]
      | _ => rw [hm] at h7; first | (cases h7; done) | (simp [Result.andThen] at h7; done)
    unfold Oper.wp execOp
    simp only [ho, ev_sound fs h1, ev_sound fs h3, ev_sound fs h5, Sem.run_bind, Sem.run_pure, Result.andThen_ok, h7']
    exact hK _ _ _ _ h8 (fs.put hd _) h9
  case convert s d x =>
    obtain ⟨v, h1, h2⟩ := vev_some hv
    cases hsd : isSliceB P d
    · simp [silentB, hsd] at hs
    · rw [hsd, vcIf_true] at h2
      exact OW_does hd (fun a w fs s => by unfold execOp; simp only [ho, ev_sound fs h1]) h2
  all_goals exact absurd rfl hs

/-! ### regions -/
def vcG (P : Program) (w0 : World) (ops : Array Oper) (o : Oper) (f : Fr) (h : PH) (K : Fr → PH → Prop) (_ : Seal ops := ⟨⟩) (_ : Seal o := ⟨⟩) (_ : Seal K := ⟨⟩) : Prop := match o.guard with
  | none => vcOp P w0 o f h K
  | some (j, want) => match ((ops[j]?).bind (·.dst)).bind f with
    | some (.bool b) => vcIf (b == want) (vcOp P w0 o f h K) (K (f.put o.dst undef) h)
    | some _ => K (f.put o.dst undef) h
    | none => False
def vcL (P : Program) (w0 : World) (ops : Array Oper) : List Oper → Fr → PH → (Fr → PH → Prop) → Prop
  | [], f, h, K => K f h
  | o :: l, f, h, K => vcG P w0 ops o f h fun f' h' => vcL P w0 ops l f' h' K
theorem vcG_wanted {ops : Array Oper} (hv : vcG P w0 ops o f h K) :
    (vcOp P w0 o f h K ∧ ∀ a, FSat f a N → Region.wanted o (yielded ops a.tmps) = true) ∨ (K (f.put o.dst undef) h ∧ ∀ a, FSat f a N → Region.wanted o (yielded ops a.tmps) = false) := by
  unfold vcG at hv
  split at hv
  · rename_i hg
    exact .inl ⟨hv, fun a fs => by simp [Region.wanted, hg]⟩
  · rename_i j want hg
    have key : ∀ v, ((ops[j]?).bind (·.dst)).bind f = some v → ∀ a, FSat f a N → ((ops[j]?).bind (·.dst)).bind (a.tmps[·]?) = some v := by
      intro v hv a fs
      obtain ⟨t, h1, h2⟩ := Option.bind_eq_some_iff.1 hv
      rw [h1]
      exact fs.at_ t v h2
    split at hv
    · rename_i b hb
      cases hbw : (b == want)
      · rw [hbw, vcIf_false] at hv
        refine .inr ⟨hv, fun a fs => ?_⟩
        simp only [Region.wanted, hg, yielded, key _ hb a fs]
        cases b <;> cases want <;> simp_all
      · rw [hbw, vcIf_true] at hv
        refine .inl ⟨hv, fun a fs => ?_⟩
        simp only [Region.wanted, hg, yielded, key _ hb a fs]
        cases b <;> cases want <;> simp_all
    · rename_i v hnb hb
      refine .inr ⟨hv, fun a fs => ?_⟩
      have h1 := key _ hb a fs
      simp only [Region.wanted, hg, yielded, h1]
      cases v <;> first | rfl | exact absurd rfl (hnb _)
    · exact hv.elim
def opsOk (N : Nat) (l : List Oper) : Bool := l.all fun o => dstOk N o.dst
theorem vcL_sound {ops : Array Oper} {Q : Exit → Act → World → Prop} : ∀ (l : List Oper) (f : Fr) (h : PH), opsOk N l = true → vcL P w0 ops l f h K → ∀ a w, FSat f a N → Sim w0 h w → (∀ f' h' a' w', K f' h' → FSat f' a' N → Sim w0 h' w' → Q .normal a' w') → wpList P ops Q l a w
  | [], f, h, _, hv, a, w, fs, s, hK => hK f h a w hv fs s
  | o :: l, f, h, hok, hv, a, w, fs, s, hK => by
    simp only [opsOk, List.all_cons, Bool.and_eq_true] at hok
    refine wpList_step fun K' hK' => ?_
    rcases vcG_wanted (N := N) hv with ⟨h1, h2⟩ | ⟨h1, h2⟩
    · rw [if_pos (h2 a fs)]
      exact vcOp_sound hok.1 h1 a w fs s K' Q fun f' h' a' w' q r t => hK' _ _ (vcL_sound l f' h' hok.2 q a' w' r t hK)
    · rw [if_neg (by rw [h2 a fs]; simp)]
      exact hK' _ _ (vcL_sound l _ h hok.2 h1 _ w (fs.put hok.1 _) s hK)

/-! ### code -/
def codeOk (N : Nat) : Code → Bool
  | .region _ ops _ => opsOk N ops.toList
  | .seq a b => codeOk N a && codeOk N b
  | .cond _ a b => codeOk N a && codeOk N b
  | .block _ c => codeOk N c
  | .loop c => codeOk N c
  | _ => true
def thenK (K : Fr → PH → Prop) (Q : Exit → Fr → PH → Prop) (_ : Seal K := ⟨⟩) (_ : Seal Q := ⟨⟩) : Exit → Fr → PH → Prop
  | .normal, f, h => K f h
  | e, f, h => Q e f h
def inBlk (id : Nat) (Q : Exit → Fr → PH → Prop) (_ : Seal Q := ⟨⟩) : Exit → Fr → PH → Prop
  | .exit i, f, h => if i = id then Q .normal f h else Q (.exit i) f h
  | e, f, h => Q e f h
theorem thenK_normal (K : Fr → PH → Prop) (Q : Exit → Fr → PH → Prop) (f : Fr) (h : PH) : thenK K Q ⟨⟩ ⟨⟩ .normal f h = K f h := rfl
theorem thenK_ret (K : Fr → PH → Prop) (Q : Exit → Fr → PH → Prop) (f : Fr) (h : PH) : thenK K Q ⟨⟩ ⟨⟩ .ret f h = Q .ret f h := rfl
theorem thenK_exit (K : Fr → PH → Prop) (Q : Exit → Fr → PH → Prop) (i : Nat) (f : Fr) (h : PH) : thenK K Q ⟨⟩ ⟨⟩ (.exit i) f h = Q (.exit i) f h := rfl
theorem inBlk_normal (id : Nat) (Q : Exit → Fr → PH → Prop) (f : Fr) (h : PH) : inBlk id Q ⟨⟩ .normal f h = Q .normal f h := rfl
theorem inBlk_ret (id : Nat) (Q : Exit → Fr → PH → Prop) (f : Fr) (h : PH) : inBlk id Q ⟨⟩ .ret f h = Q .ret f h := rfl
theorem inBlk_exit (id i : Nat) (Q : Exit → Fr → PH → Prop) (f : Fr) (h : PH) : inBlk id Q ⟨⟩ (.exit i) f h = if i = id then Q .normal f h else Q (.exit i) f h := rfl

def vc (P : Program) (w0 : World) (N : Nat) : Code → Fr → PH → (Exit → Fr → PH → Prop) → Prop
  | .skip, f, h, Q => Q .normal f h
  | .seq x y, f, h, Q => vc P w0 N x f h (thenK (fun f' h' => vc P w0 N y f' h' Q) Q)
  | .cond c x y, f, h, Q => vev f c fun b => match b with
    | .bool b => vcIf b (vc P w0 N x f h Q) (vc P w0 N y f h Q)
    | _ => False
  | .block id c, f, h, Q => vc P w0 N c f h (inBlk id Q)
  | .exit id, f, h, Q => Q (.exit id) f h
  | .ret, f, h, Q => Q .ret f h
  | .region id ops false, f, h, Q => vcL P w0 ops ops.toList f h (Q .normal)
  | c, f, h, Q => PW P w0 N c f h Q

theorem vc_sound : ∀ {c : Code} {f : Fr} {h : PH} {Q : Exit → Fr → PH → Prop}, codeOk N c = true → vc P w0 N c f h Q → PW P w0 N c f h Q
  | .skip, f, h, Q, _, hv => fun a w fs s => wp_skip ⟨f, h, hv, fs, s⟩
  | .seq x y, f, h, Q, hok, hv => by
    simp only [codeOk, Bool.and_eq_true] at hok
    intro a w fs s
    refine wp_seq (wp_mono (vc_sound (c := x) hok.1 hv a w fs s) ?_)
    rintro e a' w' ⟨f', h', q, fs', s'⟩
    cases e
    case normal => exact vc_sound (c := y) hok.2 q a' w' fs' s'
    all_goals exact ⟨f', h', q, fs', s'⟩
  | .cond c x y, f, h, Q, hok, hv => by
    simp only [codeOk, Bool.and_eq_true] at hok
    simp only [vc] at hv
    obtain ⟨b, h1, h2⟩ := vev_some hv
    intro a w fs s
    cases b <;> simp only at h2
    case bool b =>
      exact wp_cond_split (ev_sound fs h1) (fun hb => vc_sound (c := x) hok.1 (h2.1 hb) a w fs s) (fun hb => vc_sound (c := y) hok.2 (h2.2 hb) a w fs s)
  | .block id c, f, h, Q, hok, hv => by
    intro a w fs s
    refine wp_block (wp_mono (vc_sound (c := c) hok hv a w fs s) ?_)
    rintro e a' w' ⟨f', h', q, fs', s'⟩
    cases e
    case exit i =>
      simp only [inBlk_exit] at q
      simp only [Exit.inBlock]
      split
      · rename_i hi; rw [if_pos hi] at q; exact ⟨f', h', q, fs', s'⟩
      · rename_i hi; rw [if_neg hi] at q; exact ⟨f', h', q, fs', s'⟩
    all_goals exact ⟨f', h', q, fs', s'⟩
  | .exit id, f, h, Q, _, hv => fun a w fs s => wp_exit ⟨f, h, hv, fs, s⟩
  | .ret, f, h, Q, _, hv => fun a w fs s => wp_ret ⟨f, h, hv, fs, s⟩
  | .region id ops false, f, h, Q, hok, hv => by
    intro a w fs s
    exact wp_region_list (vcL_sound ops.toList f h hok hv a w fs s fun f' h' a' w' q r t => ⟨f', h', q, r, t⟩)
  | .region id ops true, f, h, Q, hok, hv => hv
  | .loop c, f, h, Q, _, hv => hv
  | .rangeFunc .., f, h, Q, _, hv => hv
  | .scope _, f, h, Q, _, hv => hv
  | .label _, f, h, Q, _, hv => hv
  | .goto _, f, h, Q, _, hv => hv
  | .refuse _, f, h, Q, _, hv => hv


/-! ### the same with parts that simp need not look into -/
def vcM (P : Program) (w0 : World) (ops : Array Oper) (l : List Oper) (f : Fr) (h : PH) (K : Fr → PH → Prop) (_ : Seal ops := ⟨⟩) (_ : Seal l := ⟨⟩) (_ : Seal K := ⟨⟩) : Prop := vcL P w0 ops l f h K
def vcC (P : Program) (w0 : World) (N : Nat) (c : Code) (f : Fr) (h : PH) (Q : Exit → Fr → PH → Prop) (_ : Seal c := ⟨⟩) (_ : Seal Q := ⟨⟩) : Prop := vc P w0 N c f h Q
theorem vcM_nil (ops : Array Oper) : vcM P w0 ops [] f h K = K f h := rfl
theorem vcM_cons (ops : Array Oper) (l : List Oper) : vcM P w0 ops (o :: l) f h K = vcG P w0 ops o f h fun f' h' => vcM P w0 ops l f' h' K := rfl
def vcGd (o : Option Value) (want : Bool) (X Y : Prop) (_ : Seal X := ⟨⟩) (_ : Seal Y := ⟨⟩) : Prop := match o with
  | some (.bool b) => vcIf (b == want) X Y
  | some _ => Y
  | none => False
theorem vcGd_bool (b want : Bool) (X Y : Prop) : vcGd (some (.bool b)) want X Y = vcIf (b == want) X Y := rfl
theorem vcGd_undef' (want : Bool) (X Y : Prop) : vcGd (some undef) want X Y = Y := rfl
theorem vcGd_undef (a : Array Value) (want : Bool) (X Y : Prop) : vcGd (some (.tuple a)) want X Y = Y := rfl
def vcPick (t : Value) (u v : Value) (k : Value → Prop) (_ : Seal k := ⟨⟩) : Prop := match t with
  | .bool t => k (if t then u else v)
  | _ => False
theorem vcPick_true (u v : Value) (k : Value → Prop) : vcPick (.bool true) u v k = k u := rfl
theorem vcPick_false (u v : Value) (k : Value → Prop) : vcPick (.bool false) u v k = k v := rfl
theorem vcPick_bool (t a b : Bool) (k : Value → Prop) : vcPick (.bool t) (.bool a) (.bool b) k = k (.bool (if t then a else b)) := by cases t <;> rfl
def vcPtr (v : Value) (k : Addr → Prop) (_ : Seal k := ⟨⟩) : Prop := match v with
  | .pointer (some a) => k a
  | _ => False
theorem vcPtr_some (a : Addr) (k : Addr → Prop) : vcPtr (.pointer (some a)) k = k a := rfl
def vcTup (v : Value) (i : Nat) (k : Value → Prop) (_ : Seal k := ⟨⟩) : Prop := match v with
  | .tuple vs => (match vs[i]? with
    | some u => k u
    | none => False)
  | _ => False
theorem vcTup_zero (u : Value) (l : List Value) (k : Value → Prop) : vcTup (.tuple (u :: l).toArray) 0 k = k u := rfl
theorem vcTup_one (a u : Value) (l : List Value) (k : Value → Prop) : vcTup (.tuple (a :: u :: l).toArray) 1 k = k u := rfl
theorem vcTup_two (a b u : Value) (l : List Value) (k : Value → Prop) : vcTup (.tuple (a :: b :: u :: l).toArray) 2 k = k u := rfl
theorem vcTup_three (a b c u : Value) (l : List Value) (k : Value → Prop) : vcTup (.tuple (a :: b :: c :: u :: l).toArray) 3 k = k u := rfl
def vcBool (v : Value) (k : Bool → Prop) (_ : Seal k := ⟨⟩) : Prop := match v with
  | .bool b => k b
  | _ => False
theorem vcBool_def (b : Bool) (k : Bool → Prop) : vcBool (.bool b) k = k b := rfl
def vcClo (fv : Value) (k : FuncId → Array Value → Array Value → Prop) (_ : Seal k := ⟨⟩) : Prop := match fv with
  | .func (.func g) first cap => k g first cap
  | _ => False
theorem vcClo_def (g : FuncId) (a b : Array Value) (k : FuncId → Array Value → Array Value → Prop) : vcClo (.func (.func g) a b) k = k g a b := rfl
section
variable {ops : Array Oper} {l : List Oper} {d : Option Tmp} {ty : TypeId} {pos : String} {af : Array Edge}
theorem vcM_move (x : Operand) : vcM P w0 ops (⟨d, .move x, ty, pos, af, none⟩ :: l) f h K = vev f x fun v => vcM P w0 ops l (f.put d v) h K := rfl
theorem vcM_assign (x : Operand) : vcM P w0 ops (⟨d, .assign x, ty, pos, af, none⟩ :: l) f h K = vev f x fun v => vcM P w0 ops l (f.put d v) h K := rfl
theorem vcM_pick (c a b : Operand) : vcM P w0 ops (⟨d, .pick c a b, ty, pos, af, none⟩ :: l) f h K = vev f c fun t => vev f a fun u => vev f b fun v => vcPick t u v fun r => vcM P w0 ops l (f.put d r) h K := rfl
theorem vcM_alloc (t : TypeId) {cs : List Value} (hz : zcells P t = some cs) : vcM P w0 ops (⟨d, .alloc t, ty, pos, af, none⟩ :: l) f h K = vcNew h fun b => vcM P w0 ops l (f.put d (.pointer (some ⟨b, 0, none⟩))) (h.new b ⟨cs, cs.length⟩) K := by
  rw [vcM_cons]
  simp only [vcG, vcOp, hz]
theorem vcM_box (t : TypeId) (x : Operand) : vcM P w0 ops (⟨d, .box t x, ty, pos, af, none⟩ :: l) f h K = vev f x fun v => vcNew h fun b => vcM P w0 ops l (f.put d (.pointer (some ⟨b, 0, none⟩))) (h.new b ⟨v.cells.toList, v.cells.size⟩) K := rfl
theorem vcM_load (t : TypeId) (x : Operand) : vcM P w0 ops (⟨d, .load t x, ty, pos, af, none⟩ :: l) f h K = vev f x fun v => vcPtr v fun a => vload P w0 h t a fun r => vcM P w0 ops l (f.put d r) h K := rfl
theorem vcM_store (t : TypeId) (x v : Operand) : vcM P w0 ops (⟨d, .store t x v, ty, pos, af, none⟩ :: l) f h K = vev f x fun p => vev f v fun u => vcPtr p fun a => vstore P w0 h t a u fun h' => vcM P w0 ops l (f.put d undef) h' K := rfl
theorem vcM_nilCheck (x : Operand) : vcM P w0 ops (⟨d, .nilCheck x, ty, pos, af, none⟩ :: l) f h K = vev f x fun v => Yld P (nilS v) fun r => vcM P w0 ops l (f.put d r) h K := rfl
theorem vcM_binOp (op : BinOp) (t u : TypeId) (a b : Operand) : vcM P w0 ops (⟨d, .binOp op t a b u, ty, pos, af, none⟩ :: l) f h K = vev f a fun x => vev f b fun y => Yld P (binS op t a b x y) fun r => vcM P w0 ops l (f.put d r) h K := rfl
theorem vcM_unOp (op : UnOp) (t : TypeId) (x : Operand) : vcM P w0 ops (⟨d, .unOp op t x, ty, pos, af, none⟩ :: l) f h K = vev f x fun v => Yld P (Op.unary op v) fun r => vcM P w0 ops l (f.put d r) h K := rfl
theorem vcM_convert (s t : TypeId) (x : Operand) : vcM P w0 ops (⟨d, .convert s t x, ty, pos, af, none⟩ :: l) f h K = vev f x fun v => vcIf (isSliceB P t) (Does P w0 h (convert s t v) fun r h' => vcM P w0 ops l (f.put d r) h' K) (vcIf (isSliceB P s) (vtext P w0 h s t v fun r => vcM P w0 ops l (f.put d r) h K) (Yld P (convert s t v) fun r => vcM P w0 ops l (f.put d r) h K)) := rfl
theorem vcM_iface (t : TypeId) (x : Operand) : vcM P w0 ops (⟨d, .makeInterface t x, ty, pos, af, none⟩ :: l) f h K = vev f x fun v => Yld P (Instr.makeInterface t v) fun r => vcM P w0 ops l (f.put d r) h K := rfl
theorem vcM_makeFunc (fn : Fn) (first cap : Array Operand) : vcM P w0 ops (⟨d, .makeFunc fn first cap, ty, pos, af, none⟩ :: l) f h K = vevs f first fun u => vevs f cap fun v => vcM P w0 ops l (f.put d (.func fn u.toArray v.toArray)) h K := rfl
theorem vcM_slice (t : TypeId) (x : Operand) (lo hi mx : Option Operand) : vcM P w0 ops (⟨d, .slice t x lo hi mx, ty, pos, af, none⟩ :: l) f h K = vev f x fun v => vop f lo fun lo => vop f hi fun hi => vop f mx fun mx => Yld P (Instr.sliceAt t v lo hi mx) fun r => vcM P w0 ops l (f.put d r) h K := rfl
theorem vcM_fieldAddr (t : TypeId) (x : Operand) (i : Nat) : vcM P w0 ops (⟨d, .fieldAddr t x i, ty, pos, af, none⟩ :: l) f h K = vev f x fun v => Yld P (Instr.fieldAt t v i) fun r => vcM P w0 ops l (f.put d r) h K := rfl
theorem vcM_field (t : TypeId) (x : Operand) (i : Nat) : vcM P w0 ops (⟨d, .field t x i, ty, pos, af, none⟩ :: l) f h K = vev f x fun v => Yld P (Instr.field t v i) fun r => vcM P w0 ops l (f.put d r) h K := rfl
theorem vcM_indexAddr (t : TypeId) (x i : Operand) : vcM P w0 ops (⟨d, .indexAddr t x i, ty, pos, af, none⟩ :: l) f h K = vev f x fun v => vev f i fun j => Yld P (Instr.indexAt t v j) fun r => vcM P w0 ops l (f.put d r) h K := rfl
theorem vcM_index (t : TypeId) (x i : Operand) : vcM P w0 ops (⟨d, .index t x i, ty, pos, af, none⟩ :: l) f h K = vev f x fun v => vev f i fun j => Yld P (Instr.index t v j) fun r => vcM P w0 ops l (f.put d r) h K := rfl
theorem vcM_extract (x : Operand) (i : Nat) : vcM P w0 ops (⟨d, .extract x i, ty, pos, af, none⟩ :: l) f h K = vev f x fun v => vcTup v i fun r => vcM P w0 ops l (f.put d r) h K := rfl
theorem vcM_typeAssert (x : Operand) (t u : TypeId) (ok : Bool) : vcM P w0 ops (⟨d, .typeAssert x t u ok, ty, pos, af, none⟩ :: l) f h K = vev f x fun v => Yld P (Instr.typeAssert v t u ok) fun r => vcM P w0 ops l (f.put d r) h K := rfl
theorem vcM_build (t : TypeId) (ps : List (Nat × Operand)) : vcM P w0 ops (⟨d, .build t ps.toArray, ty, pos, af, none⟩ :: l) f h K = vevs f (ps.map (·.2)).toArray fun vs => Yld P (Instr.build t ((ps.map (·.1)).zip vs).toArray) fun r => vcM P w0 ops l (f.put d r) h K := by
  rw [vcM_cons]
  simp only [vcG, vcOp, List.map_toArray]
theorem vcM_buildSlice (t : TypeId) (n : Nat) (ps : List (Nat × Operand)) : vcM P w0 ops (⟨d, .buildSlice t n ps.toArray, ty, pos, af, none⟩ :: l) f h K = vevs f (ps.map (·.2)).toArray fun vs => Does P w0 h (Instr.buildSlice t n ((ps.map (·.1)).zip vs).toArray) fun r h' => vcM P w0 ops l (f.put d r) h' K := by
  rw [vcM_cons]
  simp only [vcG, vcOp, List.map_toArray]
theorem vcM_makeSlice (t : TypeId) (a b : Operand) : vcM P w0 ops (⟨d, .makeSlice t a b, ty, pos, af, none⟩ :: l) f h K = vev f a fun u => vev f b fun v => Does P w0 h (Instr.makeSlice t u v) fun r h' => vcM P w0 ops l (f.put d r) h' K := rfl
theorem vcM_call (g : FuncId) (as : Array Operand) (ts : Array TypeId) : vcM P w0 ops (⟨d, .call ⟨.value (.func g), as, ts⟩, ty, pos, af, none⟩ :: l) f h K = vevs f as fun vs => PCalls P w0 g vs h fun r h' => vcM P w0 ops l (f.put d r) h' K := rfl
theorem vcM_callTmp (x : Tmp) (as : Array Operand) (ts : Array TypeId) : vcM P w0 ops (⟨d, .call ⟨.value (.tmp x), as, ts⟩, ty, pos, af, none⟩ :: l) f h K = vev f (.tmp x) fun fv => vevs f as fun vs => vcClo fv fun g first cap => PCalls P w0 g (first.toList ++ vs ++ cap.toList) h fun r h' => vcM P w0 ops l (f.put d r) h' K := rfl
theorem vcM_len (as : Array Operand) (ts : Array TypeId) : vcM P w0 ops (⟨d, .call ⟨.builtin .len, as, ts⟩, ty, pos, af, none⟩ :: l) f h K = vevs f as fun vs => lenK vs (Rds P w0 h (Builtin.len_ ts ty vs.toArray) fun r => vcM P w0 ops l (f.put d r) h K) (Yld P (Builtin.len_ ts ty vs.toArray) fun r => vcM P w0 ops l (f.put d r) h K) := rfl
theorem vcM_makeMap (t : TypeId) : vcM P w0 ops (⟨d, .makeMap t none, ty, pos, af, none⟩ :: l) f h K = Does P w0 h (Instr.makeMap t none) fun r h' => vcM P w0 ops l (f.put d r) h' K := rfl
theorem vcM_lookup (t : TypeId) (x i : Operand) (ok : Bool) : vcM P w0 ops (⟨d, .lookup t x i ok, ty, pos, af, none⟩ :: l) f h K = vev f x fun u => vev f i fun v => Rds P w0 h (Instr.lookup t u v ok) fun r => vcM P w0 ops l (f.put d r) h K := rfl
theorem vcM_mapUpdate (t : TypeId) (x i e : Operand) : vcM P w0 ops (⟨d, .mapUpdate t x i e, ty, pos, af, none⟩ :: l) f h K = vev f x fun u => vev f i fun v => vev f e fun r => Does P w0 h (updateK t u v r) fun _ h' => vcM P w0 ops l (f.put d undef) h' K := rfl
theorem vcM_cap (as : Array Operand) (ts : Array TypeId) : vcM P w0 ops (⟨d, .call ⟨.builtin .cap, as, ts⟩, ty, pos, af, none⟩ :: l) f h K = vevs f as fun vs => Yld P (Builtin.cap_ ts ty vs.toArray) fun r => vcM P w0 ops l (f.put d r) h K := rfl
theorem vcM_max (as : Array Operand) (ts : Array TypeId) : vcM P w0 ops (⟨d, .call ⟨.builtin .max, as, ts⟩, ty, pos, af, none⟩ :: l) f h K = vevs f as fun vs => Yld P (Builtin.max_ ts ty vs.toArray) fun r => vcM P w0 ops l (f.put d r) h K := rfl
theorem vcM_min (as : Array Operand) (ts : Array TypeId) : vcM P w0 ops (⟨d, .call ⟨.builtin .min, as, ts⟩, ty, pos, af, none⟩ :: l) f h K = vevs f as fun vs => Yld P (Builtin.min_ ts ty vs.toArray) fun r => vcM P w0 ops l (f.put d r) h K := rfl
theorem vcM_append (as : Array Operand) (ts : Array TypeId) : vcM P w0 ops (⟨d, .call ⟨.builtin .append, as, ts⟩, ty, pos, af, none⟩ :: l) f h K = vevs f as fun vs => Does P w0 h (Builtin.append_ ts ty vs.toArray) fun r h' => vcM P w0 ops l (f.put d r) h' K := rfl
theorem vcM_copy (as : Array Operand) (ts : Array TypeId) : vcM P w0 ops (⟨d, .call ⟨.builtin .copy, as, ts⟩, ty, pos, af, none⟩ :: l) f h K = vevs f as fun vs => Does P w0 h (Builtin.copy_ ts ty vs.toArray) fun r h' => vcM P w0 ops l (f.put d r) h' K := rfl
theorem vcM_invoke (x : Operand) (n : String) (as : Array Operand) (ts : Array TypeId) : vcM P w0 ops (⟨d, .call ⟨.invoke x n, as, ts⟩, ty, pos, af, none⟩ :: l) f h K = vev f x fun rv => vevs f as fun vs => vinvoke P w0 h rv n vs fun r h' => vcM P w0 ops l (f.put d r) h' K := rfl
def nthD : List Oper → Nat → Option Tmp
  | [], _ => none
  | o :: _, 0 => o.dst
  | _ :: l, n + 1 => nthD l n
theorem nthD_eq : ∀ (l : List Oper) (j : Nat), (l.toArray[j]?).bind (·.dst) = nthD l j
  | [], j => by simp [nthD]
  | o :: l, 0 => by simp [nthD]
  | o :: l, j + 1 => by have := nthD_eq l j; simp [nthD] at this ⊢; exact this
theorem nthD_zero (op : Op) (g : Option (Nat × Bool)) (l : List Oper) : nthD (⟨d, op, ty, pos, af, g⟩ :: l) 0 = d := rfl
theorem nthD_succ (o : Oper) (l : List Oper) (n : Nat) : nthD (o :: l) (n + 1) = nthD l n := rfl
theorem vcM_guard (os : List Oper) (op : Op) (j : Nat) (want : Bool) : vcM P w0 os.toArray (⟨d, op, ty, pos, af, some (j, want)⟩ :: l) f h K = vcGd ((nthD os j).bind f) want (vcM P w0 os.toArray (⟨d, op, ty, pos, af, none⟩ :: l) f h K) (vcM P w0 os.toArray l (f.put d undef) h K) := by
  rw [vcM_cons, ← nthD_eq]
  unfold vcG vcGd
  simp only
  split <;> rfl
end
section
variable {Q : Exit → Fr → PH → Prop} {c x y : Code} {id : Nat}
theorem vcC_skip : vcC P w0 N .skip f h Q = Q .normal f h := rfl
/-- The rest of the code, and what is to hold behind it. -/
def thenC (P : Program) (w0 : World) (N : Nat) (y : Code) (Q : Exit → Fr → PH → Prop) (_ : Seal y := ⟨⟩) (_ : Seal Q := ⟨⟩) : Exit → Fr → PH → Prop := thenK (fun f' h' => vcC P w0 N y f' h' Q) Q
theorem vcC_seq : vcC P w0 N (.seq x y) f h Q = vcC P w0 N x f h (thenC P w0 N y Q) := rfl
theorem thenC_normal : thenC P w0 N y Q ⟨⟩ ⟨⟩ .normal f h = vcC P w0 N y f h Q := rfl
theorem thenC_ret : thenC P w0 N y Q ⟨⟩ ⟨⟩ .ret f h = Q .ret f h := rfl
theorem thenC_panic (i : List PanicEntry) : thenC P w0 N y Q ⟨⟩ ⟨⟩ (.panic i) f h = Q (.panic i) f h := rfl
theorem thenK_panic (K : Fr → PH → Prop) (i : List PanicEntry) : thenK K Q ⟨⟩ ⟨⟩ (.panic i) f h = Q (.panic i) f h := rfl
theorem inBlk_panic (id : Nat) (i : List PanicEntry) : inBlk id Q ⟨⟩ (.panic i) f h = Q (.panic i) f h := rfl
theorem thenC_exit (i : Nat) : thenC P w0 N y Q ⟨⟩ ⟨⟩ (.exit i) f h = Q (.exit i) f h := rfl
theorem vcC_cond (b : Operand) : vcC P w0 N (.cond b x y) f h Q = vev f b fun b => vcBool b fun b => vcIf b (vcC P w0 N x f h Q) (vcC P w0 N y f h Q) := rfl
theorem vcC_block : vcC P w0 N (.block id c) f h Q = vcC P w0 N c f h (inBlk id Q) := rfl
theorem vcC_exit : vcC P w0 N (.exit id) f h Q = Q (.exit id) f h := rfl
theorem vcC_ret : vcC P w0 N .ret f h Q = Q .ret f h := rfl
theorem vcC_region (l : List Oper) : vcC P w0 N (.region id l.toArray false) f h Q = vcM P w0 l.toArray l f h (Q .normal) := rfl
theorem vcC_drawn (ops : Array Oper) : vcC P w0 N (.region id ops true) f h Q = PW P w0 N (.region id ops true) f h Q := rfl
theorem vcC_loop : vcC P w0 N (.loop c) f h Q = PW P w0 N (.loop c) f h Q := rfl
end

/-! ### loops -/
theorem rounds_mono {c : Code} {Q : Exit → Act → World → Prop} : ∀ {n m : Nat}, n ≤ m → ∀ a w, Code.rounds P c Q n a w → Code.rounds P c Q m a w
  | 0, _, _, _, _, h => h.elim
  | n + 1, 0, hnm, _, _, _ => absurd hnm (by omega)
  | n + 1, m + 1, hnm, a, w, h => by
    rw [rounds_succ] at h ⊢
    refine wp_mono h fun e a' w' q => ?_
    cases e
    case normal => exact rounds_mono (Nat.le_of_succ_le_succ hnm) a' w' q
    all_goals exact q
/-- A loop: I holds at each round's head, and its number falls. -/
theorem PW_loop {c : Code} {Q : Exit → Fr → PH → Prop} (I : Nat → Fr → PH → Prop) (hok : codeOk N c = true) (n : Nat) (h0 : I n f h)
    (round : ∀ n f h, I n f h → vcC P w0 N c f h (thenK (fun f' h' => ∃ m h2, m < n ∧ PH.Le h2 h' ∧ I m f' h2) Q)) : PW P w0 N (.loop c) f h Q := by
  intro a w fs s
  refine wp_loop_rounds (n + 1) ?_
  have key : ∀ n f h a w, I n f h → FSat f a N → Sim w0 h w → Code.rounds P c (fun e a' w' => ∃ f' h', Q e f' h' ∧ FSat f' a' N ∧ Sim w0 h' w') (n + 1) a w := by
    intro n
    induction n using Nat.strongRecOn with
    | _ n ih =>
      intro f h a w hI fs s
      rw [rounds_succ]
      refine wp_mono (vc_sound hok (round n f h hI) a w fs s) ?_
      rintro e a' w' ⟨f', h', q, fs', s'⟩
      cases e
      case normal =>
        obtain ⟨m, h2, hm, hl, hI'⟩ := q
        exact rounds_mono (by omega) a' w' (ih m hm f' h2 a' w' hI' fs' (s'.weak hl))
      all_goals exact ⟨f', h', q, fs', s'⟩
  exact key n f h a w h0 fs s
/-- Code in two steps. -/
theorem PW_seq {x y : Code} {Q : Exit → Fr → PH → Prop} (M : Fr → PH → Prop) (hx : PW P w0 N x f h (thenK M Q)) (hy : ∀ f' h', M f' h' → PW P w0 N y f' h' Q) : PW P w0 N (.seq x y) f h Q := by
  intro a w fs s
  refine wp_seq (wp_mono (hx a w fs s) ?_)
  rintro e a' w' ⟨f', h', q, fs', s'⟩
  cases e
  case normal => exact hy f' h' q a' w' fs' s'
  all_goals exact ⟨f', h', q, fs', s'⟩

/-! ### regions whose order is open -/
/-- Silent operations, then others in their order. -/
def vcT (P : Program) (w0 : World) (ops : Array Oper) : Nat → List Oper → Fr → PH → (Fr → PH → Prop) → Prop
  | 0, l, f, h, K => vcL P w0 ops l f h K
  | n + 1, o :: l, f, h, K => vcG P w0 ops o f h fun f' h' => vcT P w0 ops n l f' h' K
  | _ + 1, [], f, h, K => K f h
theorem vcT_still {ops : Array Oper} {L : Act → Prop} {w : World} {tl : List Oper} : ∀ (hd : List Oper) (f : Fr), opsOk N hd = true → (hd.all fun o => silentB P o.op) = true → vcT P w0 ops hd.length (hd ++ tl) f h K →
    ∀ a, FSat f a N → Sim w0 h w → (∀ f' a', vcL P w0 ops tl f' h K → FSat f' a' N → L a') → wpStill P ops w L hd a
  | [], f, _, _, hv, a, fs, s, hL => hL f a hv fs
  | o :: hd, f, hok, hsil, hv, a, fs, s, hL => by
    simp only [opsOk, List.all_cons, Bool.and_eq_true] at hok hsil
    simp only [List.length_cons, List.cons_append, vcT] at hv
    refine wpStill_step fun K' hK' => ?_
    rcases vcG_wanted (N := N) hv with ⟨h1, h2⟩ | ⟨h1, h2⟩
    · rw [if_pos (h2 a fs)]
      obtain ⟨v, h3, h4⟩ := vcOp_silent hsil.1 hok.1 h1
      unfold Oper.still
      rw [h4 a w fs s, Oper.stillUpon_value]
      exact hK' _ (vcT_still hd _ hok.2 hsil.2 h3 _ (fs.put hok.1 v) s hL)
    · rw [if_neg (by rw [h2 a fs]; simp)]
      exact hK' _ (vcT_still hd _ hok.2 hsil.2 h1 _ (fs.put hok.1 _) s hL)
theorem PW_tail {id : Nat} {l : List Oper} {Q : Exit → Fr → PH → Prop} (n : Nat) (hm : P.follows .mixedOrders = true) (hB : Region.lexTailB .any l.toArray n = true) (hok : opsOk N l = true) (hsil : ((l.take n).all fun o => silentB P o.op) = true)
    (hv : vcT P w0 l.toArray n l f h (Q .normal)) : PW P w0 N (.region id l.toArray true) f h Q := by
  intro a w fs s
  have hn : n ≤ l.length := by
    simp only [Region.lexTailB, Bool.and_eq_true, decide_eq_true_eq] at hB
    have := hB.1.1.1.2
    simp at this; omega
  have hok1 : opsOk N (l.take n) = true := by
    simp only [opsOk, List.all_eq_true] at hok ⊢
    exact fun x hx => hok x (List.mem_of_mem_take hx)
  have hok2 : opsOk N (l.drop n) = true := by
    simp only [opsOk, List.all_eq_true] at hok ⊢
    exact fun x hx => hok x (List.mem_of_mem_drop hx)
  refine wp_region_still_tail n hm hB ?_
  have e1 : (l.take n).length = n := by simp; omega
  have hv' : vcT P w0 l.toArray (l.take n).length (l.take n ++ l.drop n) f h (Q .normal) := by rw [e1, List.take_append_drop]; exact hv
  exact vcT_still (l.take n) f hok1 hsil hv' a fs s.drew fun f' a' hv' fs' => vcL_sound (l.drop n) f' h hok2 hv' a' _ fs' s.drew fun f' h' a' w' q r t => ⟨f', h', q, r, t⟩

/-- Whichever order: silent operations are taken as soon as they may, all others as they come up alone. -/
def planOk (P : Program) (ops : Array Oper) : List Nat → Array Bool → Bool
  | [], listed => (Region.ready .any ops listed).isEmpty
  | i :: l, listed => (match ops[i]? with
    | some o => if silentB P o.op then Region.free .any ops listed i && (Region.ready .any ops listed).contains i else Region.ready .any ops listed == [i]
    | none => false) && planOk P ops l (listed.setIfInBounds i true)
def vcH (P : Program) (w0 : World) (hS : PH) (ops : Array Oper) : List Nat → Fr → PH → (Fr → PH → Prop) → Prop
  | [], f, h, K => K f h
  | i :: l, f, h, K => match ops[i]? with
    | some o => if silentB P o.op then vcG P w0 ops o f hS fun f' _ => vcH P w0 hS ops l f' h K
      else vcG P w0 ops o f h fun f' h' => PH.Sub w0 hS h' ∧ vcH P w0 hS ops l f' h' K
    | none => False
theorem vcH_sound {hS : PH} {ops : Array Oper} {Q : Exit → Act → World → Prop} (hok : opsOk N ops.toList = true) (hsel : Region.noSelect ops = true) (hQ : ∀ c a d v w, Q (.panic c) (Act.put a d v) w → Q (.panic c) a w) :
    ∀ (l : List Nat) (fuel : Nat) (listed : Array Bool) (f : Fr) (h : PH), l.length ≤ fuel → planOk P ops l listed = true → vcH P w0 hS ops l f h K → PH.Sub w0 hS h →
      ∀ a w, FSat f a N → Sim w0 h w → (∀ f' h' a' w', K f' h' → FSat f' a' N → Sim w0 h' w' → Q .normal a' w') → wpAnyH P .any ops Q (Sim w0 hS) fuel listed a w
  | [], fuel, listed, f, h, _, hp, hv, hl, a, w, fs, s, hK => by
    simp only [planOk, List.isEmpty_iff] at hp
    exact wpAnyH_done hp (hK f h a w hv fs s) fuel
  | i :: l, 0, listed, f, h, hlen, hp, hv, hl, a, w, fs, s, hK => absurd hlen (by simp)
  | i :: l, fuel + 1, listed, f, h, hlen, hp, hv, hl, a, w, fs, s, hK => by
    simp only [planOk, Bool.and_eq_true] at hp
    simp only [vcH] at hv
    obtain ⟨hp1, hp2⟩ := hp
    cases ho : ops[i]? with
    | none => rw [ho] at hp1; cases hp1
    | some o =>
      have hdo : dstOk N o.dst = true := by
        simp only [opsOk, List.all_eq_true] at hok
        exact hok o (by rw [Array.mem_toList_iff]; exact Array.mem_of_getElem? ho)
      simp only [ho] at hp1 hv
      have hlen' : l.length ≤ fuel := by simpa using hlen
      by_cases hs : silentB P o.op = true
      · rw [if_pos hs] at hp1 hv
        simp only [Bool.and_eq_true] at hp1
        rcases vcG_wanted (N := N) hv with ⟨h1, h2⟩ | ⟨h1, h2⟩
        · obtain ⟨v, h3, h4⟩ := vcOp_silent hs hdo h1
          exact wpAnyH_take ho hsel hp1.1 hp1.2 (fun c a w q => hQ c a _ v w q) (.inl ⟨h2 a fs, fun w' s' => h4 a w' fs s'⟩) (hl _ s) (vcH_sound hok hsel hQ l fuel _ _ h hlen' hp2 h3 hl _ w (fs.put hdo v) s hK)
        · exact wpAnyH_take ho hsel hp1.1 hp1.2 (fun c a w q => hQ c a _ undef w q) (.inr ⟨h2 a fs, rfl⟩) (hl _ s) (vcH_sound hok hsel hQ l fuel _ _ h hlen' hp2 h1 hl _ w (fs.put hdo _) s hK)
      · rw [if_neg hs] at hp1 hv
        refine wpAnyH_all (rs := [i]) (by simpa using hp1) (by simp) fun j hj => ?_
        obtain rfl : j = i := by simpa using hj
        unfold wpOp
        simp only [ho]
        rcases vcG_wanted (N := N) hv with ⟨h1, h2⟩ | ⟨h1, h2⟩
        · rw [if_pos (h2 a fs)]
          exact .inl (vcOp_sound hdo h1 a w fs s _ _ fun f' h' a' w' q r t => ⟨q.1 _ t, vcH_sound hok hsel hQ l fuel _ f' h' hlen' hp2 q.2 q.1 a' w' r t hK⟩)
        · rw [if_neg (by rw [h2 a fs]; simp)]
          exact ⟨hl _ s, vcH_sound hok hsel hQ l fuel _ _ h hlen' hp2 h1.2 hl _ w (fs.put hdo _) s hK⟩
theorem PW_held {id : Nat} {ops : Array Oper} {Q : Exit → Fr → PH → Prop} (hS : PH) (l : List Nat) (hm : P.follows .mixedOrders = true) (hp : planOk P ops l (Array.replicate ops.size false) = true) (hlen : l.length ≤ ops.size) (hok : opsOk N ops.toList = true) (hsel : Region.noSelect ops = true)
    (hQ : ∀ c f h, ¬ Q (.panic c) f h) (hl : PH.Sub w0 hS h) (hv : vcH P w0 hS ops l f h (Q .normal)) : PW P w0 N (.region id ops true) f h Q := by
  intro a w fs s
  refine wp_region_held (S := Sim w0 hS) hm ?_
  exact vcH_sound hok hsel (fun c a d v w => by rintro ⟨f', h', q, _⟩; exact absurd q (hQ c f' h')) l _ _ f h hlen hp hv hl a _ fs s.drew fun f' h' a' w' q r t => ⟨f', h', q, r, t⟩

def vcLe (w0 : World) (hS h : PH) (X : Prop) (_ : Seal X := ⟨⟩) : Prop := PH.Sub w0 hS h ∧ X
/-- The operations behind the silent ones; hS is kept by each. -/
def vcX (P : Program) (w0 : World) (hS : PH) (ops : Array Oper) : List Oper → Fr → PH → (Fr → PH → Prop) → Prop
  | [], f, h, K => K f h
  | o :: l, f, h, K => vcIf (silentB P o.op) (vcM P w0 ops [o] f hS fun f' _ => vcX P w0 hS ops l f' h K) (vcM P w0 ops [o] f h fun f' h' => vcLe w0 hS h' (vcX P w0 hS ops l f' h' K))
def vcXS (P : Program) (w0 : World) (hS : PH) (ops : Array Oper) (l : List Oper) (f : Fr) (h : PH) (K : Fr → PH → Prop) (_ : Seal ops := ⟨⟩) (_ : Seal l := ⟨⟩) (_ : Seal K := ⟨⟩) : Prop := vcX P w0 hS ops l f h K
theorem vcXS_nil (hS : PH) (ops : Array Oper) : vcXS P w0 hS ops [] f h K = K f h := rfl
theorem vcXS_cons (hS : PH) (ops : Array Oper) (l : List Oper) : vcXS P w0 hS ops (o :: l) f h K = vcIf (silentB P o.op) (vcM P w0 ops [o] f hS fun f' _ => vcXS P w0 hS ops l f' h K) (vcM P w0 ops [o] f h fun f' h' => vcLe w0 hS h' (vcXS P w0 hS ops l f' h' K)) := rfl
theorem silent_move (x : Operand) : silentB P (.move x) = true := rfl
theorem silent_assign (x : Operand) : silentB P (.assign x) = true := rfl
theorem silent_binOp (op : BinOp) (t u : TypeId) (x y : Operand) : silentB P (.binOp op t x y u) = true := rfl
theorem silent_load (t : TypeId) (x : Operand) : silentB P (.load t x) = true := rfl
theorem silent_extract (x : Operand) (i : Nat) : silentB P (.extract x i) = true := rfl
theorem silent_pick (x y z : Operand) : silentB P (.pick x y z) = true := rfl
theorem silent_store (t : TypeId) (x y : Operand) : silentB P (.store t x y) = false := rfl
theorem silent_alloc (t : TypeId) : silentB P (.alloc t) = false := rfl
theorem silent_box (t : TypeId) (x : Operand) : silentB P (.box t x) = false := rfl
theorem silent_lookup (t : TypeId) (x i : Operand) (ok : Bool) : silentB P (.lookup t x i ok) = true := rfl
theorem silent_mapUpdate (t : TypeId) (x i e : Operand) : silentB P (.mapUpdate t x i e) = false := rfl
theorem silent_makeMap (t : TypeId) (x : Option Operand) : silentB P (.makeMap t x) = false := rfl
theorem silent_buildSlice (t : TypeId) (n : Nat) (ps : Array (Nat × Operand)) : silentB P (.buildSlice t n ps) = false := rfl
theorem silent_append (as : Array Operand) (ts : Array TypeId) : silentB P (.call ⟨.builtin .append, as, ts⟩) = false := rfl
theorem silent_copy (as : Array Operand) (ts : Array TypeId) : silentB P (.call ⟨.builtin .copy, as, ts⟩) = false := rfl
theorem silent_call (x : Operand) (as : Array Operand) (ts : Array TypeId) : silentB P (.call ⟨.value x, as, ts⟩) = false := rfl
theorem silent_len (as : Array Operand) (ts : Array TypeId) : silentB P (.call ⟨.builtin .len, as, ts⟩) = true := rfl
def vcY (P : Program) (w0 : World) (hS : PH) (ops : Array Oper) : Nat → List Oper → Fr → PH → (Fr → PH → Prop) → Prop
  | 0, l, f, h, K => vcX P w0 hS ops l f h K
  | n + 1, o :: l, f, h, K => vcG P w0 ops o f hS fun f' _ => vcY P w0 hS ops n l f' h K
  | _ + 1, [], f, h, K => K f h
def vcYS (P : Program) (w0 : World) (hS : PH) (ops : Array Oper) (n : Nat) (l : List Oper) (f : Fr) (h : PH) (K : Fr → PH → Prop) (_ : Seal ops := ⟨⟩) (_ : Seal l := ⟨⟩) (_ : Seal K := ⟨⟩) : Prop := vcY P w0 hS ops n l f h K
theorem vcYS_zero (hS : PH) (ops : Array Oper) (l : List Oper) : vcYS P w0 hS ops 0 l f h K = vcXS P w0 hS ops l f h K := by cases l <;> rfl
theorem vcYS_succ (hS : PH) (ops : Array Oper) (n : Nat) (l : List Oper) : vcYS P w0 hS ops (n + 1) (o :: l) f h K = vcM P w0 ops [o] f hS fun f' _ => vcYS P w0 hS ops n l f' h K := rfl
theorem vcY_sound {hS : PH} {ops : Array Oper} {Q : Exit → Act → World → Prop} (hok : opsOk N ops.toList = true) (hsel : Region.noSelect ops = true) (hQ : ∀ c a d v w, Q (.panic c) (Act.put a d v) w → Q (.panic c) a w) :
    ∀ (l : List Oper) (n k fuel : Nat) (listed : Array Bool) (f : Fr) (h : PH), (∀ j, l[j]? = ops[k + j]?) → l.length ≤ fuel → ((l.take n).all fun o => silentB P o.op) = true → planOk P ops (List.range' k l.length) listed = true → vcY P w0 hS ops n l f h K → PH.Sub w0 hS h →
      ∀ a w, FSat f a N → Sim w0 h w → (∀ f' h' a' w', K f' h' → FSat f' a' N → Sim w0 h' w' → Q .normal a' w') → wpAnyH P .any ops Q (Sim w0 hS) fuel listed a w
  | [], n, k, fuel, listed, f, h, _, _, _, hp, hv, hl, a, w, fs, s, hK => by
    simp only [List.length_nil, List.range'_zero, planOk, List.isEmpty_iff] at hp
    have hv' : K f h := by cases n <;> exact hv
    exact wpAnyH_done hp (hK f h a w hv' fs s) fuel
  | o :: l, n, k, 0, listed, f, h, _, hlen, _, hp, hv, hl, a, w, fs, s, hK => absurd hlen (by simp)
  | o :: l, n, k, fuel + 1, listed, f, h, hlk, hlen, hsil, hp, hv, hl, a, w, fs, s, hK => by
    have ho : ops[k]? = some o := by simpa using (hlk 0).symm
    have hlk' : ∀ j, l[j]? = ops[k + 1 + j]? := fun j => by have := hlk (j + 1); simpa [Nat.add_assoc, Nat.add_comm 1 j] using this
    simp only [List.length_cons, List.range'_succ, planOk, Bool.and_eq_true, ho] at hp
    obtain ⟨hp1, hp2⟩ := hp
    have hdo : dstOk N o.dst = true := by
      simp only [opsOk, List.all_eq_true] at hok
      exact hok o (by rw [Array.mem_toList_iff]; exact Array.mem_of_getElem? ho)
    have hlen' : l.length ≤ fuel := by simpa using hlen
    have take (h1s : silentB P o.op = true) {v : Value} (hy : YieldsIf P ops (Sim w0 hS) o v a) (hr : wpAnyH P .any ops Q (Sim w0 hS) fuel (listed.setIfInBounds k true) (a.put o.dst v) w) : wpAnyH P .any ops Q (Sim w0 hS) (fuel + 1) listed a w := by
      rw [if_pos h1s] at hp1
      simp only [Bool.and_eq_true] at hp1
      exact wpAnyH_take ho hsel hp1.1 hp1.2 (fun c a w q => hQ c a _ v w q) hy (hl _ s) hr
    cases n with
    | succ n =>
      simp only [List.take_succ_cons, List.all_cons, Bool.and_eq_true] at hsil
      rcases vcG_wanted (N := N) (show vcG P w0 ops o f hS _ from hv) with ⟨h1, h2⟩ | ⟨h1, h2⟩
      · obtain ⟨v, h3, h4⟩ := vcOp_silent hsil.1 hdo h1
        exact take hsil.1 (.inl ⟨h2 a fs, fun w' s' => h4 a w' fs s'⟩) (vcY_sound hok hsel hQ l n (k + 1) fuel _ _ h hlk' hlen' hsil.2 hp2 h3 hl _ w (fs.put hdo v) s hK)
      · exact take hsil.1 (.inr ⟨h2 a fs, rfl⟩) (vcY_sound hok hsel hQ l n (k + 1) fuel _ _ h hlk' hlen' hsil.2 hp2 h1 hl _ w (fs.put hdo _) s hK)
    | zero =>
      have hall : ((l.take 0).all fun o => silentB P o.op) = true := rfl
      by_cases hs : silentB P o.op = true
      · have hv1 := hv
        simp only [vcY, vcX, hs, vcIf_true] at hv1
        rcases vcG_wanted (N := N) (show vcG P w0 ops o f hS _ from hv1) with ⟨h1, h2⟩ | ⟨h1, h2⟩
        · obtain ⟨v, h3, h4⟩ := vcOp_silent hs hdo h1
          exact take hs (.inl ⟨h2 a fs, fun w' s' => h4 a w' fs s'⟩) (vcY_sound hok hsel hQ l 0 (k + 1) fuel _ _ h hlk' hlen' hall hp2 h3 hl _ w (fs.put hdo v) s hK)
        · exact take hs (.inr ⟨h2 a fs, rfl⟩) (vcY_sound hok hsel hQ l 0 (k + 1) fuel _ _ h hlk' hlen' hall hp2 h1 hl _ w (fs.put hdo _) s hK)
      · rw [if_neg hs] at hp1
        refine wpAnyH_all (rs := [k]) (by simpa using hp1) (by simp) fun j hj => ?_
        obtain rfl : j = k := by simpa using hj
        unfold wpOp
        simp only [ho]
        have hsf : silentB P o.op = false := by simpa using hs
        have hv1 := hv
        simp only [vcY, vcX, hsf, vcIf_false] at hv1
        rcases vcG_wanted (N := N) (show vcG P w0 ops o f h _ from hv1) with ⟨h1, h2⟩ | ⟨h1, h2⟩
        · rw [if_pos (h2 a fs)]
          exact .inl (vcOp_sound hdo h1 a w fs s _ _ fun f' h' a' w' q r t => ⟨q.1 _ t, vcY_sound hok hsel hQ l 0 (j + 1) fuel _ f' h' hlk' hlen' hall hp2 q.2 q.1 a' w' r t hK⟩)
        · rw [if_neg (by rw [h2 a fs]; simp)]
          exact ⟨hl _ s, vcY_sound hok hsel hQ l 0 (j + 1) fuel _ _ h hlk' hlen' hall hp2 h1.2 hl _ w (fs.put hdo _) s hK⟩
/-- A region whose order is open: n silent operations, then others; hS is what its loads read, and is kept. -/
theorem PW_drawn {id : Nat} {l : List Oper} {Q : Exit → Fr → PH → Prop} (n : Nat) (hS : PH) (hm : P.follows .mixedOrders = true) (hp : planOk P l.toArray (List.range' 0 l.length) (Array.replicate l.toArray.size false) = true) (hsil : ((l.take n).all fun o => silentB P o.op) = true) (hok : opsOk N l = true) (hsel : Region.noSelect l.toArray = true)
    (hQ : ∀ c f h, ¬ Q (.panic c) f h) (hl : PH.Sub w0 hS h) (hv : vcYS P w0 hS l.toArray n l f h (Q .normal)) : PW P w0 N (.region id l.toArray true) f h Q := by
  intro a w fs s
  refine wp_region_held (S := Sim w0 hS) hm ?_
  exact vcY_sound (N := N) (by simpa using hok) hsel (fun c a d v w => by rintro ⟨f', h', q, _⟩; exact absurd q (hQ c f' h')) l n 0 _ _ f h (fun j => by simp) (by simp) hsil hp hv hl a _ fs s.drew fun f' h' a' w' q r t => ⟨f', h', q, r, t⟩

/-! ### calls -/
/-- A variable's value, as an option. -/
def rval (P : Program) (w0 : World) (f : Fr) (h : PH) (r : ResultVar) (k : Value → Prop) (_ : Seal k := ⟨⟩) : Prop := match r with
  | .tmp t => oget (f t) k
  | .cell t ty => oget (f t) fun v => match v with
    | .pointer (some a) => vload P w0 h ty a k
    | _ => False
def rvals (P : Program) (w0 : World) (f : Fr) (h : PH) : List ResultVar → (List Value → Prop) → Prop
  | [], k => k []
  | r :: rs, k => rval P w0 f h r fun v => rvals P w0 f h rs fun vs => k (v :: vs)
def asOne : List Value → Value
  | [v] => v
  | vs => .tuple vs.toArray
/-- What a body must come to. -/
def vcRet (P : Program) (w0 : World) (rs : List ResultVar) (R : Value → PH → Prop) (_ : Seal R := ⟨⟩) : Exit → Fr → PH → Prop
  | .normal, f, h => rvals P w0 f h rs fun vs => R (asOne vs) h
  | .ret, f, h => rvals P w0 f h rs fun vs => R (asOne vs) h
  | _, _, _ => False
theorem rvals_sound : ∀ {rs : List ResultVar} {k : List Value → Prop}, rvals P w0 f h rs k → ∃ vs, k vs ∧ ∀ a w, FSat f a N → Sim w0 h w →
    (rs.mapM (m := Sem) fun | .tmp t => pure (a.tmps.getD t undef) | .cell x t => do loadVar t (← asAddr (a.tmps.getD x undef))).run P w = .ok vs w
  | [], k, hv => ⟨[], hv, fun a w _ _ => by simp [Sem.run_pure]⟩
  | r :: rs, k, hv => by
    simp only [rvals] at hv
    have hr : ∃ v, (rvals P w0 f h rs fun vs => k (v :: vs)) ∧ ∀ a w, FSat f a N → Sim w0 h w → ((fun | .tmp t => pure (a.tmps.getD t undef) | .cell x t => do loadVar t (← asAddr (a.tmps.getD x undef)) : ResultVar → Sem Value) r).run P w = .ok v w := by
      unfold rval at hv
      split at hv
      · rename_i t
        unfold oget at hv
        split at hv
        · rename_i v hf
          exact ⟨v, hv, fun a w fs s => by simp [Sem.run_pure, Array.getD_eq_getD_getElem?, fs.at_ t v hf]⟩
        · exact hv.elim
      · rename_i t ty
        unfold oget at hv
        split at hv
        · rename_i u hf
          split at hv
          case h_2 => exact hv.elim
          rename_i ad
          obtain ⟨v, h1, h2⟩ := vload_sound hv
          refine ⟨v, h1, fun a w fs s => ?_⟩
          have h3 : a.tmps.getD t undef = .pointer (some ad) := by simp [Array.getD_eq_getD_getElem?, fs.at_ t _ hf]
          simp only [h3, asAddr, Sem.run_bind, Sem.run_pure, Result.andThen_ok, h2 w s]
        · exact hv.elim
    obtain ⟨v, h1, h2⟩ := hr
    obtain ⟨vs, h3, h4⟩ := rvals_sound h1
    refine ⟨v :: vs, h3, fun a w fs s => ?_⟩
    rw [List.mapM_cons]
    simp only [Sem.run_bind, h2 a w fs s, h4 a w fs s, Result.andThen_ok, Sem.run_pure]
theorem vcRet_0_ret (R : Value → PH → Prop) : vcRet P w0 [] R ⟨⟩ .ret f h = R (.tuple #[]) h := rfl
theorem vcRet_0_normal (R : Value → PH → Prop) : vcRet P w0 [] R ⟨⟩ .normal f h = R (.tuple #[]) h := rfl
theorem vcRet_1_ret (R : Value → PH → Prop) (t : Nat) : vcRet P w0 [.tmp t] R ⟨⟩ .ret f h = (oget (f t) fun v => R v h) := rfl
theorem vcRet_1_normal (R : Value → PH → Prop) (t : Nat) : vcRet P w0 [.tmp t] R ⟨⟩ .normal f h = (oget (f t) fun v => R v h) := rfl
theorem vcRet_2_ret (R : Value → PH → Prop) (t u : Nat) : vcRet P w0 [.tmp t, .tmp u] R ⟨⟩ .ret f h = (oget (f t) fun v => oget (f u) fun w => R (.tuple #[v, w]) h) := rfl
theorem vcRet_2_normal (R : Value → PH → Prop) (t u : Nat) : vcRet P w0 [.tmp t, .tmp u] R ⟨⟩ .normal f h = (oget (f t) fun v => oget (f u) fun w => R (.tuple #[v, w]) h) := rfl
theorem vcRet_3_ret (R : Value → PH → Prop) (t u x : Nat) : vcRet P w0 [.tmp t, .tmp u, .tmp x] R ⟨⟩ .ret f h = (oget (f t) fun v => oget (f u) fun w => oget (f x) fun y => R (.tuple #[v, w, y]) h) := rfl
theorem vcRet_3_normal (R : Value → PH → Prop) (t u x : Nat) : vcRet P w0 [.tmp t, .tmp u, .tmp x] R ⟨⟩ .normal f h = (oget (f t) fun v => oget (f u) fun w => oget (f x) fun y => R (.tuple #[v, w, y]) h) := rfl
theorem vcRet_4_ret (R : Value → PH → Prop) (t u x z : Nat) : vcRet P w0 [.tmp t, .tmp u, .tmp x, .tmp z] R ⟨⟩ .ret f h = (oget (f t) fun v => oget (f u) fun w => oget (f x) fun y => oget (f z) fun q => R (.tuple #[v, w, y, q]) h) := rfl
theorem vcRet_4_normal (R : Value → PH → Prop) (t u x z : Nat) : vcRet P w0 [.tmp t, .tmp u, .tmp x, .tmp z] R ⟨⟩ .normal f h = (oget (f t) fun v => oget (f u) fun w => oget (f x) fun y => oget (f z) fun q => R (.tuple #[v, w, y, q]) h) := rfl
theorem vcRet_c_ret (R : Value → PH → Prop) (t u : Nat) : vcRet P w0 [.cell t u] R ⟨⟩ .ret f h = (oget (f t) fun v => vcPtr v fun a => vload P w0 h u a fun r => R r h) := rfl
theorem vcRet_c_normal (R : Value → PH → Prop) (t u : Nat) : vcRet P w0 [.cell t u] R ⟨⟩ .normal f h = (oget (f t) fun v => vcPtr v fun a => vload P w0 h u a fun r => R r h) := rfl
theorem vcRet_ct_ret (R : Value → PH → Prop) (t u x : Nat) : vcRet P w0 [.cell t u, .tmp x] R ⟨⟩ .ret f h = (oget (f t) fun v => vcPtr v fun a => vload P w0 h u a fun r => oget (f x) fun y => R (.tuple #[r, y]) h) := rfl
theorem vcRet_ct_normal (R : Value → PH → Prop) (t u x : Nat) : vcRet P w0 [.cell t u, .tmp x] R ⟨⟩ .normal f h = (oget (f t) fun v => vcPtr v fun a => vload P w0 h u a fun r => oget (f x) fun y => R (.tuple #[r, y]) h) := rfl
theorem vcRet_tc_ret (R : Value → PH → Prop) (t u x : Nat) : vcRet P w0 [.tmp x, .cell t u] R ⟨⟩ .ret f h = (oget (f x) fun y => oget (f t) fun v => vcPtr v fun a => vload P w0 h u a fun r => R (.tuple #[y, r]) h) := rfl
theorem vcRet_tc_normal (R : Value → PH → Prop) (t u x : Nat) : vcRet P w0 [.tmp x, .cell t u] R ⟨⟩ .normal f h = (oget (f x) fun y => oget (f t) fun v => vcPtr v fun a => vload P w0 h u a fun r => R (.tuple #[y, r]) h) := rfl
theorem Calls_body {g : FuncId} {fn : Func} {c : Code} {args : List Value} {R : Value → PH → Prop} (hf : P.funcs[g]? = some fn) (hb : fn.body = some c) (N : Nat) (hN : fn.ntmps = N) (hok : codeOk N c = true) (hn : Nat.ble args.length N = true)
    (rs : List ResultVar) (hrs : fn.results = rs.toArray) (hv : vcC P w0 N c (Fr.args args N) h (vcRet P w0 rs (fun v h' => ∃ h2, PH.Le h2 h' ∧ R v h2))) : ∀ w, Sim w0 h w → Calls P g args.toArray w fun e w' => ∃ v h', e = .returned v ∧ R v h' ∧ Sim w0 h' w' := by
  subst hN
  have hrs' : rs = fn.results.toList := by rw [hrs]
  subst hrs'
  intro w s
  refine calls_of_wp hf hb (wp_mono (vc_sound hok hv _ w (FSat.args (Nat.le_of_ble_eq_true hn)) s) ?_)
  rintro e a' w' ⟨f', h', q, fs, s'⟩
  have key : rvals P w0 f' h' fn.results.toList (fun vs => ∃ h2, PH.Le h2 h' ∧ R (asOne vs) h2) → a'.defers = [] ∧ ∃ v, (results fn a'.tmps).run P w' = .ok v w' ∧ ∃ v' h'', Ending.returned v = .returned v' ∧ R v' h'' ∧ Sim w0 h'' w' := by
    intro q
    obtain ⟨vs, ⟨h2, hl, hR⟩, h3⟩ := rvals_sound (N := fn.ntmps) q
    refine ⟨fs.defers, asOne vs, ?_, asOne vs, h2, rfl, hR, s'.weak hl⟩
    have h4 := h3 a' w' fs s'
    unfold results
    rw [Array.mapM_eq_mapM_toList]
    simp only [map_eq_pure_bind, bind_assoc, pure_bind, Sem.run_bind]
    erw [h4]
    simp only [Result.andThen_ok]
    unfold asOne
    rcases vs with _ | ⟨v, _ | ⟨u, vs⟩⟩ <;> simp [Sem.run_pure]
  cases e
  case normal => exact key q
  case ret => exact key q
  all_goals exact q.elim
theorem PCalls_body {g : FuncId} {fn : Func} {c : Code} {args : List Value} {R : Value → PH → Prop} (hf : P.funcs[g]? = some fn) (he : entered P g = true) (hb : fn.body = some c) (N : Nat) (hN : fn.ntmps = N) (hok : codeOk N c = true) (hn : Nat.ble args.length N = true)
    (rs : List ResultVar) (hrs : fn.results = rs.toArray) (hv : vcC P w0 N c (Fr.args args N) h (vcRet P w0 rs (fun v h' => ∃ h2, PH.Le h2 h' ∧ R v h2))) : PCalls P w0 g args h R := fun w s => .inl ⟨run_callFunc he _ w, Calls_body hf hb N hN hok hn rs hrs hv w s⟩
/-- A law that is true, from its call over nothing. -/
theorem law_calls {g : FuncId} {args : List Value} {w : World} (hc : Calls P g args.toArray w fun e w' => ∃ v h', e = .returned v ∧ v = .bool true ∧ Sim w h' w') : Calls P g args.toArray w fun e w' => e = .returned (.bool true) ∧ Below w.heap.size w w' :=
  hc.mono fun e w' ⟨v, h', he, hv, hs⟩ => ⟨by rw [he, hv], hs.below⟩
/-- A function without a body, by what the model says of it. -/
theorem PCalls_value {g : FuncId} {args : List Value} {R : Value → PH → Prop} (v : Value) (hr : ∀ w, (callFunc g args.toArray).run P w = .ok (.value v) w) (hR : R v h) : PCalls P w0 g args h R :=
  fun w s => .inr ⟨v, w, h, hr w, hR, s⟩
/-- Rounds one by one. -/
def vcR (P : Program) (w0 : World) (N : Nat) (c : Code) (Q : Exit → Fr → PH → Prop) : Nat → Fr → PH → Prop
  | 0, _, _ => False
  | n + 1, f, h => vcC P w0 N c f h (thenK (vcR P w0 N c Q n) Q)
def vcN (P : Program) (w0 : World) (N : Nat) (c : Code) (n : Nat) (f : Fr) (h : PH) (Q : Exit → Fr → PH → Prop) (_ : Seal c := ⟨⟩) (_ : Seal Q := ⟨⟩) : Prop := vcR P w0 N c Q n f h
def thenN (P : Program) (w0 : World) (N : Nat) (c : Code) (n : Nat) (Q : Exit → Fr → PH → Prop) (_ : Seal c := ⟨⟩) (_ : Seal Q := ⟨⟩) : Exit → Fr → PH → Prop := thenK (vcR P w0 N c Q n) Q
theorem vcN_succ (c : Code) (n : Nat) (Q : Exit → Fr → PH → Prop) : vcN P w0 N c (n + 1) f h Q = vcC P w0 N c f h (thenN P w0 N c n Q) := rfl
theorem thenN_normal (c : Code) (n : Nat) (Q : Exit → Fr → PH → Prop) : thenN P w0 N c n Q ⟨⟩ ⟨⟩ .normal f h = vcN P w0 N c n f h Q := rfl
theorem thenN_ret (c : Code) (n : Nat) (Q : Exit → Fr → PH → Prop) : thenN P w0 N c n Q ⟨⟩ ⟨⟩ .ret f h = Q .ret f h := rfl
theorem thenN_exit (c : Code) (n : Nat) (Q : Exit → Fr → PH → Prop) (i : Nat) : thenN P w0 N c n Q ⟨⟩ ⟨⟩ (.exit i) f h = Q (.exit i) f h := rfl
theorem thenN_panic (c : Code) (n : Nat) (Q : Exit → Fr → PH → Prop) (i : List PanicEntry) : thenN P w0 N c n Q ⟨⟩ ⟨⟩ (.panic i) f h = Q (.panic i) f h := rfl
theorem vcRet_panic (rs : List ResultVar) (R : Value → PH → Prop) (i : List PanicEntry) : vcRet P w0 rs R ⟨⟩ (.panic i) f h = False := rfl
theorem PW_rounds {c : Code} {Q : Exit → Fr → PH → Prop} (n : Nat) (hok : codeOk N c = true) (hv : vcN P w0 N c n f h Q) : PW P w0 N (.loop c) f h Q := by
  intro a w fs s
  refine wp_loop_rounds n ?_
  have key : ∀ n f h a w, vcR P w0 N c Q n f h → FSat f a N → Sim w0 h w → Code.rounds P c (fun e a' w' => ∃ f' h', Q e f' h' ∧ FSat f' a' N ∧ Sim w0 h' w') n a w := by
    intro n
    induction n with
    | zero => intro f h a w hv _ _; exact hv.elim
    | succ n ih =>
      intro f h a w hv fs s
      rw [rounds_succ]
      refine wp_mono (vc_sound hok hv a w fs s) ?_
      rintro e a' w' ⟨f', h', q, fs', s'⟩
      cases e
      case normal => exact ih f' h' a' w' q fs' s'
      all_goals exact ⟨f', h', q, fs', s'⟩
  exact key n f h a w hv fs s
end
end Go.Proofs.Ytblikpbaeippaaa.Px


/- The logic's equations for single operations: numbers, truth values, texts, lengths, addresses. No condition. -/
namespace Go.Proofs.Ytblikpbaeippaaa.Px
set_option linter.unusedVariables false
set_option linter.unusedSimpArgs false
open Go.RowKit

/-! ### looking up -/
theorem fr_put (f : Fr) (d : Tmp) (v : Value) (t : Tmp) : f.put (some d) v t = if t = d then some v else f t := rfl
theorem fr_put0 (f : Fr) (v : Value) : f.put none v = f := rfl
theorem fr_args (l : List Value) (n t : Nat) : Fr.args l n t = if t < n then some (l.getD t undef) else none := rfl
theorem vcIf_dt (p : Prop) [Decidable p] (X Y : Prop) (h : p) : vcIf (decide p) X Y = X := by rw [decide_eq_true h, vcIf_true]
theorem vcIf_df (p : Prop) [Decidable p] (X Y : Prop) (h : ¬ p) : vcIf (decide p) X Y = Y := by rw [decide_eq_false h, vcIf_false]
theorem vcIf_slT {P : Program} {t : TypeId} (X Y : Prop) (h : isSliceB P t = true) : vcIf (isSliceB P t) X Y = X := by rw [h, vcIf_true]
theorem vcIf_slF {P : Program} {t : TypeId} (X Y : Prop) (h : isSliceB P t = false) : vcIf (isSliceB P t) X Y = Y := by rw [h, vcIf_false]
theorem vcIf_beq (b : Bool) (X Y : Prop) : vcIf (b == true) X Y = vcIf b X Y := by cases b <;> rfl
theorem vcIf_bnq (b : Bool) (X Y : Prop) : vcIf (b == false) X Y = vcIf (!b) X Y := by cases b <;> rfl
theorem vcIf_not (b : Bool) (X Y : Prop) : vcIf (!b) X Y = vcIf b Y X := by cases b <;> simp [vcIf]
theorem emptyToList : (#[] : Array Value).toList = [] := rfl
theorem natCast0 : ((0 : Nat) : Int) = 0 := rfl
theorem natCast1 : ((1 : Nat) : Int) = 1 := rfl
theorem natCast2 : ((2 : Nat) : Int) = 2 := rfl
theorem natCast3 : ((3 : Nat) : Int) = 3 := rfl
/-! ### numbers as words -/
def u8 (c : UInt8) : Value := .int .u8 c.toNat
def u16 (c : UInt16) : Value := .int .u16 c.toNat
def u32 (c : UInt32) : Value := .int .u32 c.toNat
def u64 (c : UInt64) : Value := .int .u64 c.toNat
theorem ev_u8 (f : Fr) (k : Value → Prop) (n : Int) (h : 0 ≤ n) (h2 : n ≤ 255) : vev f (.const (.int .u8 n)) k = k ((u8 (UInt8.ofNat n.toNat))) := by
  have e : Value.int .u8 n = u8 (UInt8.ofNat n.toNat) := by unfold u8; congr 1; simp; omega
  show k _ = k _; rw [e]
theorem ev_u16 (f : Fr) (k : Value → Prop) (n : Int) (h : 0 ≤ n) (h2 : n ≤ 65535) : vev f (.const (.int .u16 n)) k = k ((u16 (UInt16.ofNat n.toNat))) := by
  have e : Value.int .u16 n = u16 (UInt16.ofNat n.toNat) := by unfold u16; congr 1; simp; omega
  show k _ = k _; rw [e]
theorem ev_u32 (f : Fr) (k : Value → Prop) (n : Int) (h : 0 ≤ n) (h2 : n ≤ 4294967295) : vev f (.const (.int .u32 n)) k = k ((u32 (UInt32.ofNat n.toNat))) := by
  have e : Value.int .u32 n = u32 (UInt32.ofNat n.toNat) := by unfold u32; congr 1; simp; omega
  show k _ = k _; rw [e]
theorem ev_u64 (f : Fr) (k : Value → Prop) (n : Int) (h : 0 ≤ n) (h2 : n ≤ 18446744073709551615) : vev f (.const (.int .u64 n)) k = k ((u64 (UInt64.ofNat n.toNat))) := by
  have e : Value.int .u64 n = u64 (UInt64.ofNat n.toNat) := by unfold u64; congr 1; simp; omega
  show k _ = k _; rw [e]
theorem ev_i64 (f : Fr) (k : Value → Prop) (n : Int) : vev f (.const (.int .i64 n)) k = k ((.int .i64 n)) := rfl
theorem ev_bool (f : Fr) (k : Value → Prop) (b : Bool) : vev f (.const (.bool b)) k = k ((.bool b)) := rfl
theorem ev_sl (f : Fr) (k : Value → Prop) (a : Option Addr) (n c : Nat) : vev f (.const (.slice a n c)) k = k ((.slice a n c)) := rfl
theorem ev_ptr (f : Fr) (k : Value → Prop) (a : Option Addr) : vev f (.const (.pointer a)) k = k ((.pointer a)) := rfl
theorem ev_nilI (f : Fr) (k : Value → Prop) : vev f (.const .nilIface) k = k (.nilIface) := rfl
theorem ev_nilF (f : Fr) (k : Value → Prop) : vev f (.const .nilFunc) k = k (.nilFunc) := rfl
theorem ev_tup (f : Fr) (k : Value → Prop) (a : Array Value) : vev f (.const (.tuple a)) k = k ((.tuple a)) := rfl
theorem ev_ifc (f : Fr) (k : Value → Prop) (t : TypeId) (v : Value) : vev f (.const (.iface t v)) k = k ((.iface t v)) := rfl
theorem ev_agg (f : Fr) (k : Value → Prop) (a : Array Value) : vev f (.const (.agg a)) k = k ((.agg a)) := rfl

section
variable {P : Program} {t t2 : TypeId} {x y : Operand} {K : Value → Prop}
theorem binS_plain {op : BinOp} {u v : Value} (h1 : op ≠ .eql) (h2 : op ≠ .neq) : binS op t x y u v = binOp op t u v := by
  unfold binS eqGuard
  cases op <;> first | exact absurd rfl h1 | exact absurd rfl h2 | rfl
theorem binS_int {op : BinOp} {k k' : IntKind} {a b : Int} : binS op t x y (.int k a) (.int k' b) = binOp op t (.int k a) (.int k' b) := by
  unfold binS eqGuard
  cases op <;> rfl

/-! 64-bit numbers -/
theorem y_add (a b : Int) : Yld P (binS .add t x y (.int .i64 a) (.int .i64 b)) K = K (.int .i64 (IntKind.i64.wrap (a + b))) := Yld_eq fun w => by rw [binS_int]; rfl
theorem y_sub (a b : Int) : Yld P (binS .sub t x y (.int .i64 a) (.int .i64 b)) K = K (.int .i64 (IntKind.i64.wrap (a - b))) := Yld_eq fun w => by rw [binS_int]; rfl
theorem y_mul (a b : Int) : Yld P (binS .mul t x y (.int .i64 a) (.int .i64 b)) K = K (.int .i64 (IntKind.i64.wrap (a * b))) := Yld_eq fun w => by rw [binS_int]; rfl
theorem y_quo (a b : Int) (ha : 0 ≤ a) (h2 : a ≤ 9223372036854775807) (hb : 0 < b) : Yld P (binS .quo t x y (.int .i64 a) (.int .i64 b)) K = K (.int .i64 (a / b)) := Yld_eq fun w => by
  rw [binS_int]
  have h1 : a.tdiv b = a / b := Int.tdiv_eq_ediv_of_nonneg ha
  have h0 : 0 ≤ a / b := Int.ediv_nonneg ha (by omega)
  have h3 : a / b ≤ a := Int.ediv_le_self b ha
  simp [binOp, Op.intDiv, show ¬ b = 0 by omega, h1, Sem.run_pure, IntWalk.i64_in (a / b) ⟨by omega, by omega⟩]
theorem y_rem (a b : Int) (ha : 0 ≤ a) (hb : 0 < b) : Yld P (binS .rem t x y (.int .i64 a) (.int .i64 b)) K = K (.int .i64 (a % b)) := Yld_eq fun w => by
  rw [binS_int]
  have h1 : a.tmod b = a % b := Int.tmod_eq_emod_of_nonneg ha
  simp [binOp, Op.intDiv, show ¬ b = 0 by omega, h1, Sem.run_pure]
theorem y_eql (a b : Int) : Yld P (binS .eql t x y (.int .i64 a) (.int .i64 b)) K = K (.bool (decide (a = b))) := Yld_eq fun w => by rw [binS_int]; simp [binOp, Op.intCmp, Sem.run_pure]; by_cases h : a = b <;> simp [h]
theorem y_neq (a b : Int) : Yld P (binS .neq t x y (.int .i64 a) (.int .i64 b)) K = K (.bool (decide (a ≠ b))) := Yld_eq fun w => by rw [binS_int]; simp [binOp, Op.intCmp, Sem.run_pure]; by_cases h : a = b <;> simp [h]
theorem y_lss (a b : Int) : Yld P (binS .lss t x y (.int .i64 a) (.int .i64 b)) K = K (.bool (decide (a < b))) := Yld_eq fun w => by rw [binS_int]; rfl
theorem y_leq (a b : Int) : Yld P (binS .leq t x y (.int .i64 a) (.int .i64 b)) K = K (.bool (decide (a ≤ b))) := Yld_eq fun w => by rw [binS_int]; rfl
theorem y_gtr (a b : Int) : Yld P (binS .gtr t x y (.int .i64 a) (.int .i64 b)) K = K (.bool (decide (b < a))) := Yld_eq fun w => by rw [binS_int]; rfl
theorem y_geq (a b : Int) : Yld P (binS .geq t x y (.int .i64 a) (.int .i64 b)) K = K (.bool (decide (b ≤ a))) := Yld_eq fun w => by rw [binS_int]; rfl
theorem wrap_in (n : Int) (h1 : -9223372036854775808 ≤ n) (h2 : n ≤ 9223372036854775807) : IntKind.i64.wrap n = n := IntWalk.i64_in n ⟨h1, h2⟩

theorem wrapU8 (n : Int) : IntKind.u8.wrap n = n % 256 := by simp [IntKind.wrap, IntKind.bits, IntKind.signed]
theorem wrapU16 (n : Int) : IntKind.u16.wrap n = n % 65536 := by simp [IntKind.wrap, IntKind.bits, IntKind.signed]
theorem wrapU32 (n : Int) : IntKind.u32.wrap n = n % 4294967296 := by simp [IntKind.wrap, IntKind.bits, IntKind.signed]
theorem wrapU64 (n : Int) : IntKind.u64.wrap n = n % 18446744073709551616 := by simp [IntKind.wrap, IntKind.bits, IntKind.signed]

theorem cmp_eq {a b : Nat} {p : Prop} [Decidable p] (h : a = b ↔ p) : ((a : Int) == (b : Int)) = decide p := by
  by_cases hp : p
  · simp [hp, h.2 hp]
  · simp [hp]; intro e; exact hp (h.1 (by omega))

/-! bytes -/
theorem y_add8 (a b : UInt8) : Yld P (binS .add t x y (u8 a) (u8 b)) K = K (u8 (a + b)) := Yld_eq fun w => by
  unfold u8; rw [binS_int]; simp [binOp, Op.intArith, Sem.run_pure, wrapU8]
theorem y_sub8 (a b : UInt8) : Yld P (binS .sub t x y (u8 a) (u8 b)) K = K (u8 (a - b)) := Yld_eq fun w => by
  unfold u8; rw [binS_int]; simp [binOp, Op.intArith, Sem.run_pure, wrapU8]
  have := a.toNat_lt; have := b.toNat_lt; rw [UInt8.toNat_sub]; omega
theorem y_mul8 (a b : UInt8) : Yld P (binS .mul t x y (u8 a) (u8 b)) K = K (u8 (a * b)) := Yld_eq fun w => by
  unfold u8; rw [binS_int]; simp [binOp, Op.intArith, Sem.run_pure, wrapU8]
theorem y_eql8 (a b : UInt8) : Yld P (binS .eql t x y (u8 a) (u8 b)) K = K (.bool (decide (a = b))) := Yld_eq fun w => by
  unfold u8; rw [binS_int]; simp only [binOp, Op.intCmp, Sem.run_pure]; simp only [ne_eq, not_true_eq_false, if_false, Sem.run_pure, cmp_eq UInt8.toNat_inj]
theorem y_neq8 (a b : UInt8) : Yld P (binS .neq t x y (u8 a) (u8 b)) K = K (.bool (decide (a ≠ b))) := Yld_eq fun w => by
  unfold u8; rw [binS_int]; simp only [binOp, Op.intCmp, Sem.run_pure]; simp only [ne_eq, not_true_eq_false, if_false, Sem.run_pure, bne, cmp_eq UInt8.toNat_inj, decide_not]
theorem y_lss8 (a b : UInt8) : Yld P (binS .lss t x y (u8 a) (u8 b)) K = K (.bool (decide (a < b))) := Yld_eq fun w => by
  unfold u8; rw [binS_int]; simp [binOp, Op.intCmp, Sem.run_pure, UInt8.lt_iff_toNat_lt]
theorem y_leq8 (a b : UInt8) : Yld P (binS .leq t x y (u8 a) (u8 b)) K = K (.bool (decide (a ≤ b))) := Yld_eq fun w => by
  unfold u8; rw [binS_int]; simp [binOp, Op.intCmp, Sem.run_pure, UInt8.le_iff_toNat_le]
theorem y_gtr8 (a b : UInt8) : Yld P (binS .gtr t x y (u8 a) (u8 b)) K = K (.bool (decide (b < a))) := Yld_eq fun w => by
  unfold u8; rw [binS_int]; simp [binOp, Op.intCmp, Sem.run_pure, UInt8.lt_iff_toNat_lt]
theorem y_geq8 (a b : UInt8) : Yld P (binS .geq t x y (u8 a) (u8 b)) K = K (.bool (decide (b ≤ a))) := Yld_eq fun w => by
  unfold u8; rw [binS_int]; simp [binOp, Op.intCmp, Sem.run_pure, UInt8.le_iff_toNat_le]
theorem ofInt8 (a : UInt8) : BitVec.ofInt IntKind.u8.bits (a.toNat : Int) = a.toBitVec := by
  show BitVec.ofInt 8 (a.toNat : Int) = a.toBitVec
  rw [BitVec.ofInt_natCast]; apply BitVec.eq_of_toNat_eq; simp
theorem back8 (r : UInt8) : IntKind.u8.wrap (r.toBitVec.toNat : Int) = r.toNat := by
  rw [wrapU8]; have := r.toNat_lt; show ((r.toNat : Int) % 256) = _; omega
theorem y_and8 (a b : UInt8) : Yld P (binS .and t x y (u8 a) (u8 b)) K = K (u8 (a &&& b)) := Yld_eq fun w => by
  unfold u8; rw [binS_int]; simp only [binOp, Op.intBits, ofInt8, ne_eq, not_true_eq_false, if_false]; exact congrArg (fun z => Result.ok (Value.int .u8 z) w) (back8 (a &&& b))
theorem y_or8 (a b : UInt8) : Yld P (binS .or t x y (u8 a) (u8 b)) K = K (u8 (a ||| b)) := Yld_eq fun w => by
  unfold u8; rw [binS_int]; simp only [binOp, Op.intBits, ofInt8, ne_eq, not_true_eq_false, if_false]; exact congrArg (fun z => Result.ok (Value.int .u8 z) w) (back8 (a ||| b))
theorem y_xor8 (a b : UInt8) : Yld P (binS .xor t x y (u8 a) (u8 b)) K = K (u8 (a ^^^ b)) := Yld_eq fun w => by
  unfold u8; rw [binS_int]; simp only [binOp, Op.intBits, ofInt8, ne_eq, not_true_eq_false, if_false]; exact congrArg (fun z => Result.ok (Value.int .u8 z) w) (back8 (a ^^^ b))

/-! words of 32 bits -/
theorem y_add32 (a b : UInt32) : Yld P (binS .add t x y (u32 a) (u32 b)) K = K (u32 (a + b)) := Yld_eq fun w => by
  unfold u32; rw [binS_int]; simp [binOp, Op.intArith, Sem.run_pure, wrapU32]
theorem y_sub32 (a b : UInt32) : Yld P (binS .sub t x y (u32 a) (u32 b)) K = K (u32 (a - b)) := Yld_eq fun w => by
  unfold u32; rw [binS_int]; simp [binOp, Op.intArith, Sem.run_pure, wrapU32]
  have := a.toNat_lt; have := b.toNat_lt; rw [UInt32.toNat_sub]; omega
theorem y_mul32 (a b : UInt32) : Yld P (binS .mul t x y (u32 a) (u32 b)) K = K (u32 (a * b)) := Yld_eq fun w => by
  unfold u32; rw [binS_int]; simp [binOp, Op.intArith, Sem.run_pure, wrapU32]
theorem y_eql32 (a b : UInt32) : Yld P (binS .eql t x y (u32 a) (u32 b)) K = K (.bool (decide (a = b))) := Yld_eq fun w => by
  unfold u32; rw [binS_int]; simp only [binOp, Op.intCmp, Sem.run_pure]; simp only [ne_eq, not_true_eq_false, if_false, Sem.run_pure, cmp_eq UInt32.toNat_inj]
theorem y_neq32 (a b : UInt32) : Yld P (binS .neq t x y (u32 a) (u32 b)) K = K (.bool (decide (a ≠ b))) := Yld_eq fun w => by
  unfold u32; rw [binS_int]; simp only [binOp, Op.intCmp, Sem.run_pure]; simp only [ne_eq, not_true_eq_false, if_false, Sem.run_pure, bne, cmp_eq UInt32.toNat_inj, decide_not]
theorem ofInt32 (a : UInt32) : BitVec.ofInt IntKind.u32.bits (a.toNat : Int) = a.toBitVec := by
  show BitVec.ofInt 32 (a.toNat : Int) = a.toBitVec
  rw [BitVec.ofInt_natCast]; apply BitVec.eq_of_toNat_eq; simp
theorem back32 (r : UInt32) : IntKind.u32.wrap (r.toBitVec.toNat : Int) = r.toNat := by
  rw [wrapU32]; have := r.toNat_lt; show ((r.toNat : Int) % 4294967296) = _; omega
theorem y_and32 (a b : UInt32) : Yld P (binS .and t x y (u32 a) (u32 b)) K = K (u32 (a &&& b)) := Yld_eq fun w => by
  unfold u32; rw [binS_int]; simp only [binOp, Op.intBits, ofInt32, ne_eq, not_true_eq_false, if_false]; exact congrArg (fun z => Result.ok (Value.int .u32 z) w) (back32 (a &&& b))
theorem y_or32 (a b : UInt32) : Yld P (binS .or t x y (u32 a) (u32 b)) K = K (u32 (a ||| b)) := Yld_eq fun w => by
  unfold u32; rw [binS_int]; simp only [binOp, Op.intBits, ofInt32, ne_eq, not_true_eq_false, if_false]; exact congrArg (fun z => Result.ok (Value.int .u32 z) w) (back32 (a ||| b))
theorem y_xor32 (a b : UInt32) : Yld P (binS .xor t x y (u32 a) (u32 b)) K = K (u32 (a ^^^ b)) := Yld_eq fun w => by
  unfold u32; rw [binS_int]; simp only [binOp, Op.intBits, ofInt32, ne_eq, not_true_eq_false, if_false]; exact congrArg (fun z => Result.ok (Value.int .u32 z) w) (back32 (a ^^^ b))
theorem binS_shift {op : BinOp} {u v : Value} (h : op = .shl ∨ op = .shr) : binS op t x y u v = binOp op t u v := binS_plain (by rcases h with rfl | rfl <;> simp) (by rcases h with rfl | rfl <;> simp)
theorem y_shl32 (a : UInt32) (n : UInt64) (h1 : n.toNat < 32) : Yld P (binS .shl t x y (u32 a) (u64 n)) K = K (u32 (a <<< UInt32.ofNat n.toNat)) := Yld_eq fun w => by
  unfold u32 u64; rw [binS_shift (.inl rfl)]
  simp only [binOp]
  rw [shift_shl .u32 .u64 _ _ (by omega) (by simp [IntKind.bits]; omega), Sem.run_pure, wrapU32]
  congr 3
  rw [UInt32.toNat_shiftLeft, UInt32.toNat_ofNat', Int.toNat_natCast, Nat.shiftLeft_eq]
  rw [Nat.mod_eq_of_lt (show n.toNat % 2 ^ 32 < 32 by omega), Nat.mod_eq_of_lt (show n.toNat < 2 ^ 32 by omega)]
  rw [Int.natCast_emod, Int.natCast_mul, Int.natCast_pow]; rfl
theorem y_shr8 (a : UInt8) (n : UInt64) (h1 : n.toNat < 8) : Yld P (binS .shr t x y (u8 a) (u64 n)) K = K (u8 (a >>> UInt8.ofNat n.toNat)) := Yld_eq fun w => by
  unfold u8 u64; rw [binS_shift (.inr rfl)]
  simp only [binOp]
  rw [shift_shr .u8 .u64 _ _ (by omega) (by simp [IntKind.bits]; omega), Sem.run_pure]
  congr 3
  rw [UInt8.toNat_shiftRight, UInt8.toNat_ofNat', Int.toNat_natCast, Nat.shiftRight_eq_div_pow]
  rw [Nat.mod_eq_of_lt (show n.toNat % 2 ^ 8 < 8 by omega), Nat.mod_eq_of_lt (show n.toNat < 2 ^ 8 by omega)]
  push_cast; rfl
theorem y_shr32 (a : UInt32) (n : UInt64) (h1 : n.toNat < 32) : Yld P (binS .shr t x y (u32 a) (u64 n)) K = K (u32 (a >>> UInt32.ofNat n.toNat)) := Yld_eq fun w => by
  unfold u32 u64; rw [binS_shift (.inr rfl)]
  simp only [binOp]
  rw [shift_shr .u32 .u64 _ _ (by omega) (by simp [IntKind.bits]; omega), Sem.run_pure]
  congr 3
  rw [UInt32.toNat_shiftRight, UInt32.toNat_ofNat', Int.toNat_natCast, Nat.shiftRight_eq_div_pow]
  rw [Nat.mod_eq_of_lt (show n.toNat % 2 ^ 32 < 32 by omega), Nat.mod_eq_of_lt (show n.toNat < 2 ^ 32 by omega)]
  push_cast; rfl

/-! truth values -/
theorem y_not (b : Bool) : Yld P (Op.unary .not (.bool b)) K = K (.bool !b) := Yld_eq fun w => rfl
theorem y_eqlB (a b : Bool) (ht : P.underlying t = some .bool) : Yld P (binS .eql t x y (.bool a) (.bool b)) K = K (.bool (a == b)) := Yld_eq fun w => by
  unfold binS eqGuard; simp [run_eql_bool w t a b ht]
theorem y_neqB (a b : Bool) (ht : P.underlying t = some .bool) : Yld P (binS .neq t x y (.bool a) (.bool b)) K = K (.bool (!(a == b))) := Yld_eq fun w => by
  unfold binS eqGuard; simp [run_neq_bool w t a b ht]
theorem y_neg (n : Int) : Yld P (Op.unary .neg (.int .i64 n)) K = K (.int .i64 (IntKind.i64.wrap (0 - n))) := Yld_eq fun w => rfl
theorem y_com32 (a : UInt32) : Yld P (Op.unary .xor (u32 a)) K = K (u32 (~~~a)) := Yld_eq fun w => by
  unfold u32; simp only [Op.unary, Op.intBits, ofInt32]
  have h1 : BitVec.ofInt IntKind.u32.bits (if IntKind.u32.signed = true then -1 else IntKind.u32.max) = BitVec.allOnes 32 := by
    show BitVec.ofInt 32 4294967295 = BitVec.allOnes 32
    rfl
  rw [h1]
  have h2 : (BitVec.allOnes 32 ^^^ a.toBitVec) = (~~~a).toBitVec := by
    apply BitVec.eq_of_getLsbD_eq; intro i hi
    simp only [BitVec.getLsbD_xor, BitVec.getLsbD_allOnes, UInt32.toBitVec_not, BitVec.getLsbD_not, hi, decide_true, Bool.true_xor, Bool.true_and]
  exact congrArg (fun z => Result.ok (Value.int .u32 z) w) ((congrArg (fun z : BitVec 32 => IntKind.u32.wrap (z.toNat : Int)) h2).trans (back32 (~~~a)))

/-! errors against nil -/
theorem y_eqlNN (v : Value) (ht : P.underlying t = some (.interface (P.methodsAt t))) : Yld P (binS .eql t x (.const v) .nilIface .nilIface) K = K (.bool true) := Yld_eq fun w => by
  unfold binS eqGuard; simp [run_eql_nil_nil w t ht]
theorem y_neqNN (v : Value) (ht : P.underlying t = some (.interface (P.methodsAt t))) : Yld P (binS .neq t x (.const v) .nilIface .nilIface) K = K (.bool false) := Yld_eq fun w => by
  unfold binS eqGuard; simp [run_neq_nil_nil w t ht]
theorem y_eqlHN (v u : Value) (k : TypeId) (ht : P.underlying t = some (.interface (P.methodsAt t))) : Yld P (binS .eql t x (.const v) (.iface k u) .nilIface) K = K (.bool false) := Yld_eq fun w => by
  unfold binS eqGuard; simp [run_eql_held_nil w t k u ht]
theorem y_neqHN (v u : Value) (k : TypeId) (ht : P.underlying t = some (.interface (P.methodsAt t))) : Yld P (binS .neq t x (.const v) (.iface k u) .nilIface) K = K (.bool true) := Yld_eq fun w => by
  unfold binS eqGuard; simp [run_neq_held_nil w t k u ht]

/-! texts -/
theorem y_eqlS (a b : ByteArray) : Yld P (binS .eql t x y (.string a) (.string b)) K = K (.bool (decide (a = b))) := Yld_eq fun w => by
  unfold binS eqGuard
  simp [binOp_string_eql, Sem.run_pure, ByteArray.toList_eq]
  rcases a with ⟨⟨a⟩⟩; rcases b with ⟨⟨b⟩⟩; by_cases h : a = b <;> simp [h]
theorem y_neqS (a b : ByteArray) : Yld P (binS .neq t x y (.string a) (.string b)) K = K (.bool (decide (a ≠ b))) := Yld_eq fun w => by
  unfold binS eqGuard
  simp [binOp_string_neq, Sem.run_pure, ByteArray.toList_eq]
  rcases a with ⟨⟨a⟩⟩; rcases b with ⟨⟨b⟩⟩; by_cases h : a = b <;> simp [h]
theorem y_addS (a b : ByteArray) (h : a.size + b.size ≤ 9223372036854775807) : Yld P (binS .add t x y (.string a) (.string b)) K = K (.string (a ++ b)) := Yld_eq fun w => by
  rw [binS_plain (by simp) (by simp), binOp_string_add]
  simp only [Op.stringOp]
  rw [if_neg (by simp [IntKind.max, IntKind.signed, IntKind.bits]; omega)]
  rfl
theorem y_lenS (ty : TypeId) (s : ByteArray) (h : P.underlying t = some .string) : Yld P (Builtin.len_ #[t] ty #[.string s]) K = K (.int .i64 s.size) := Yld_eq fun w => run_len_string w t ty s h
theorem y_lenL (ty : TypeId) (a : Option Addr) (n c : Nat) (h : isSliceB P t = true) : Yld P (Builtin.len_ #[t] ty #[.slice a n c]) K = K (.int .i64 n) := Yld_eq fun w => by
  unfold isSliceB at h
  split at h
  · rename_i e he
    simp [Builtin.len_, run_underlying he]; rfl
  · cases h
theorem y_min2 (ts : Array TypeId) (k k' : IntKind) (a b : Int) : Yld P (Builtin.min_ ts t #[.int k a, .int k' b]) K = K (.int k (if b < a then b else a)) := Yld_eq fun w => run_min_int2 w ts t k k' a b
theorem y_max2 (ts : Array TypeId) (k k' : IntKind) (a b : Int) : Yld P (Builtin.max_ ts t #[.int k a, .int k' b]) K = K (.int k (if b > a then b else a)) := Yld_eq fun w => run_max_int2 w ts t k k' a b
end
end Go.Proofs.Ytblikpbaeippaaa.Px

