/- A drawn region by a tree of plans whose last operation may undo what was held. No condition. -/
import Derived.Test.YtcjojkhieocehaaDoorPt
namespace Go.Proofs.YtcjojkhieocehaaDoor.Px
set_option linter.unusedVariables false
set_option linter.unusedSimpArgs false
open Go.RowKit
section
variable {P : Program} {ops : Array Oper} {Q : Exit → Act → World → Prop} {S : World → Prop}
def precB (ops : Array Oper) (i k : Nat) : Bool := match ops[k]? with
  | some o => o.after.any fun e => Region.binds .any e && e.on == i
  | none => false
def reachB (ops : Array Oper) : Nat → Nat → Nat → Bool
  | 0, _, _ => false
  | n + 1, i, k => precB ops i k || match ops[k]? with
    | some o => o.after.any fun e => Region.binds .any e && reachB ops n i e.on
    | none => false
/-- All others come ahead of operation j. -/
def sinkB (ops : Array Oper) (j : Nat) : Bool := (List.range ops.size).all fun i => i == j || reachB ops ops.size i j
/-- What an operation waits for has come, if it has. -/
def Closed (ops : Array Oper) (listed : Array Bool) : Prop := ∀ k, listed.getD k false = true → ∀ o, ops[k]? = some o → ∀ e ∈ o.after, Region.binds .any e = true → listed.getD e.on false = true
theorem reach_listed {listed : Array Bool} (hc : Closed ops listed) : ∀ (n i k : Nat), (∀ o, ops[k]? = some o → ∀ e ∈ o.after, Region.binds .any e = true → listed.getD e.on false = true) → reachB ops n i k = true → listed.getD i false = true
  | 0, i, k, _, h => by simp [reachB] at h
  | n + 1, i, k, hp, h => by
    rw [reachB, Bool.or_eq_true] at h
    rcases h with h | h
    · unfold precB at h
      split at h
      · rename_i o ho
        simp only [Array.any_eq_true', Bool.and_eq_true, beq_iff_eq] at h
        obtain ⟨e, he, hb, rfl⟩ := h
        exact hp o ho e he hb
      · cases h
    · split at h
      · rename_i o ho
        simp only [Array.any_eq_true', Bool.and_eq_true] at h
        obtain ⟨e, he, hb, hr⟩ := h
        exact reach_listed hc n i e.on (hc e.on (hp o ho e he hb)) hr
      · cases h
theorem getD_both {listed : Array Bool} {i : Nat} (h : listed.getD i true = false) : listed.getD i false = false := by
  rcases Nat.lt_or_ge i listed.size with h' | h'
  · simp [h'] at h ⊢; exact h
  · simp [Array.getElem?_eq_none h'] at h
theorem Closed.set {listed : Array Bool} (hc : Closed ops listed) {i : Nat} (hi : i ∈ Region.ready .any ops listed) : Closed ops (listed.setIfInBounds i true) := by
  intro k hk o ho e he hb
  refine getD_set_true ?_
  by_cases hki : i = k
  · subst hki
    obtain ⟨_, o', ho', hall⟩ := mem_ready.1 hi
    rw [ho] at ho'
    obtain rfl := Option.some.inj ho'
    exact hall e he hb
  · exact hc k (by rw [getD_set_ne false hki] at hk; exact hk) o ho e he hb
/-- As the kit's walk of any order with what is held; a last operation need not keep it. -/
def wpAnyM (P : Program) (ops : Array Oper) (Q : Exit → Act → World → Prop) (S : World → Prop) : Nat → Array Bool → Act → World → Prop
  | 0, listed, a, w => Region.ready .any ops listed = [] ∧ Q .normal a w
  | n + 1, listed, a, w => (Region.ready .any ops listed = [] → Q .normal a w) ∧ ∀ i ∈ Region.ready .any ops listed,
      wpOp P ops Q i (fun a' w' => S w' ∧ wpAnyM P ops Q S n (listed.setIfInBounds i true) a' w') a w ∨
      (sinkB ops i = true ∧ wpOp P ops Q i (wpAny P .any ops Q n (listed.setIfInBounds i true)) a w)
theorem wpAnyM_any : ∀ (n : Nat) (listed : Array Bool) (a : Act) (w : World), wpAnyM P ops Q S n listed a w → wpAny P .any ops Q n listed a w
  | 0, _, _, _, h => h
  | n + 1, _, _, _, h => ⟨h.1, fun i hi => (h.2 i hi).elim (wpOp_mono fun a' w' h' => wpAnyM_any n _ a' w' h'.2) (·.2)⟩
theorem wpAnyM_first {i : Nat} {oi : Oper} {v : Value} (hi : ops[i]? = some oi) (hsel : ∀ (j : Nat) (o : Oper) cs b, ops[j]? = some o → o.op ≠ .select cs b)
    (hQ : ∀ c a w, Q (.panic c) (a.put oi.dst v) w → Q (.panic c) a w) :
    ∀ (n : Nat) (listed : Array Bool) (a : Act) (w : World), Closed ops listed →
      (∀ j oj, ops[j]? = some oj → j ≠ i → listed.getD j true = false → (∀ e ∈ oj.after, Region.binds .any e = true → e.on ≠ i) → oi.apart ops oj = true) →
      i ∈ Region.ready .any ops listed → YieldsIf P ops S oi v a → S w →
      wpAnyM P ops Q S n (listed.setIfInBounds i true) (a.put oi.dst v) w → wpAnyM P ops Q S (n + 1) listed a w := by
  intro n
  induction n with
  | zero =>
    intro listed a w _ _ hr hy hS H
    refine ⟨fun h => (by rw [h] at hr; cases hr), fun j hj => ?_⟩
    by_cases hji : j = i
    · subst hji; exact .inl (hy.wpOp hi hS ⟨hS, H⟩)
    · have := ready_mono hj hji
      rw [H.1] at this
      cases this
  | succ n ih =>
    intro listed a w hc hfree hr hy hS H
    refine ⟨fun h => (by rw [h] at hr; cases hr), fun j hj => ?_⟩
    by_cases hji : j = i
    · subst hji; exact .inl (hy.wpOp hi hS ⟨hS, H⟩)
    · obtain ⟨hjun, oj, hoj, hall⟩ := mem_ready.1 hj
      have hiun := (mem_ready.1 hr).1
      rcases H.2 j (ready_mono hj hji) with h1 | ⟨hsk, _⟩
      · have hnot : ∀ e ∈ oj.after, Region.binds .any e = true → e.on ≠ i := fun e he hb heq => by
          have h1 := hall e he hb
          rw [heq, getD_both hiun] at h1
          cases h1
        have h2 := wpOp_putIf hoj (hfree j oj hoj hji hjun hnot) (fun cs b => hsel i oi cs b hi) (fun cs b => hsel j oj cs b hoj) hQ hy h1
        have hfree' : ∀ k ok, ops[k]? = some ok → k ≠ i → (listed.setIfInBounds j true).getD k true = false →
            (∀ e ∈ ok.after, Region.binds .any e = true → e.on ≠ i) → oi.apart ops ok = true := fun k ok hk hki hun hno => by
          refine hfree k ok hk hki ?_ hno
          by_cases hjk : j = k
          · subst hjk; exact hjun
          · rw [getD_set_ne true hjk] at hun; exact hun
        refine .inl (wpOp_mono (fun a' w' h3 => ⟨h3.2.1, ih (listed.setIfInBounds j true) a' w' (hc.set hj) hfree' (ready_mono hr (Ne.symm hji)) h3.1 h3.2.1 ?_⟩) h2)
        rw [Array.setIfInBounds_comm _ _ hji]
        exact h3.2.2
      · exfalso
        unfold sinkB at hsk
        simp only [List.all_eq_true, List.mem_range, Bool.or_eq_true, beq_iff_eq] at hsk
        have hlt : i < ops.size := (Array.getElem?_eq_some_iff.1 hi).1
        rcases hsk i hlt with h | h
        · exact hji h.symm
        · have := reach_listed hc _ i j (fun o ho => by rw [hoj] at ho; obtain rfl := Option.some.inj ho; exact hall) h
          rw [getD_both hiun] at this
          cases this
end
/-- A plan: take one operation; the only one that is ready; two that are ready at once, each with what comes behind it; the last one. -/
inductive Tr where
  | done
  | take (i : Nat) (p : Tr)
  | only (i : Nat) (p : Tr)
  | both (i : Nat) (p : Tr) (j : Nat) (q : Tr)
  | last (i : Nat)
section
variable {P : Program} {w0 : World} {h : PH} {N : Nat} {K : Fr → PH → Prop}
def Tr.len : Tr → Nat
  | .done => 0
  | .take _ p => p.len + 1
  | .only _ p => p.len + 1
  | .both _ p _ q => max p.len q.len + 1
  | .last _ => 1
def trOk (P : Program) (ops : Array Oper) : Tr → Array Bool → Bool
  | .done, listed => (Region.ready .any ops listed).isEmpty
  | .take i p, listed => (match ops[i]? with
    | some o => if silentB P o.op = true then Region.free .any ops listed i && (Region.ready .any ops listed).contains i else Region.ready .any ops listed == [i]
    | none => false) && trOk P ops p (listed.setIfInBounds i true)
  | .only i p, listed => (Region.ready .any ops listed == [i]) && trOk P ops p (listed.setIfInBounds i true)
  | .both i p j q, listed => (Region.ready .any ops listed == [i, j]) && trOk P ops p (listed.setIfInBounds i true) && trOk P ops q (listed.setIfInBounds j true)
  | .last i, listed => (Region.ready .any ops listed == [i]) && sinkB ops i && (Region.ready .any ops (listed.setIfInBounds i true)).isEmpty
def vcTr (P : Program) (w0 : World) (hS : PH) (ops : Array Oper) : Tr → Fr → PH → (Fr → PH → Prop) → Prop
  | .done, f, h, K => K f h
  | .take i p, f, h, K => match ops[i]? with
    | some o => if silentB P o.op = true then vcG P w0 ops o f hS fun f' _ => vcTr P w0 hS ops p f' h K
      else vcG P w0 ops o f h fun f' h' => PH.Sub w0 hS h' ∧ vcTr P w0 hS ops p f' h' K
    | none => False
  | .only i p, f, h, K => (match ops[i]? with
    | some o => vcG P w0 ops o f h fun f' h' => PH.Sub w0 hS h' ∧ vcTr P w0 hS ops p f' h' K
    | none => False)
  | .both i p j q, f, h, K => (match ops[i]? with
    | some o => vcG P w0 ops o f h fun f' h' => PH.Sub w0 hS h' ∧ vcTr P w0 hS ops p f' h' K
    | none => False) ∧ (match ops[j]? with
    | some o => vcG P w0 ops o f h fun f' h' => PH.Sub w0 hS h' ∧ vcTr P w0 hS ops q f' h' K
    | none => False)
  | .last i, f, h, K => (match ops[i]? with
    | some o => vcG P w0 ops o f h K
    | none => False)
/-- One operation that is carried out. -/
theorem vcG_op {hS : PH} {ops : Array Oper} {Q : Exit → Act → World → Prop} (hok : opsOk N ops.toList = true) {k : Nat} {f : Fr} {a : Act} {w : World} (fs : FSat f a N) (s : Sim w0 h w) {R : Fr → PH → Prop} {L : Act → World → Prop} (hv : (match ops[k]? with
    | some o => vcG P w0 ops o f h R
    | none => False)) (hL : ∀ f' h' a' w', R f' h' → FSat f' a' N → Sim w0 h' w' → L a' w') : wpOp P ops Q k L a w := by
  cases ho : ops[k]? with
  | none => rw [ho] at hv; exact hv.elim
  | some o =>
    have hdo : dstOk N o.dst = true := by
      simp only [opsOk, List.all_eq_true] at hok
      exact hok o (by rw [Array.mem_toList_iff]; exact Array.mem_of_getElem? ho)
    simp only [ho] at hv
    unfold wpOp
    simp only [ho]
    rcases vcG_wanted (N := N) hv with ⟨h1, h2⟩ | ⟨h1, h2⟩
    · rw [if_pos (h2 a fs)]
      exact .inl (vcOp_sound hdo h1 a w fs s _ _ fun f' h' a' w' q r t => hL f' h' a' w' q r t)
    · rw [if_neg (by rw [h2 a fs]; simp)]
      exact hL _ _ _ _ h1 (fs.put hdo _) s
theorem vcTr_sound {hS : PH} {ops : Array Oper} {Q : Exit → Act → World → Prop} (hok : opsOk N ops.toList = true) (hsel : Region.noSelect ops = true) (hQ : ∀ c a d v w, Q (.panic c) (Act.put a d v) w → Q (.panic c) a w) :
    ∀ (l : Tr) (fuel : Nat) (listed : Array Bool) (f : Fr) (h : PH), l.len ≤ fuel → trOk P ops l listed = true → Closed ops listed → vcTr P w0 hS ops l f h K → PH.Sub w0 hS h →
      ∀ a w, FSat f a N → Sim w0 h w → (∀ f' h' a' w', K f' h' → FSat f' a' N → Sim w0 h' w' → Q .normal a' w') → wpAnyM P ops Q (Sim w0 hS) fuel listed a w
  | .done, fuel, listed, f, h, _, hp, hc, hv, hl, a, w, fs, s, hK => by
    simp only [trOk, List.isEmpty_iff] at hp
    have := hK f h a w hv fs s
    cases fuel with
    | zero => exact ⟨hp, this⟩
    | succ n => exact ⟨fun _ => this, fun i hi => by rw [hp] at hi; cases hi⟩
  | .take i l, 0, listed, f, h, hlen, hp, hc, hv, hl, a, w, fs, s, hK => absurd hlen (by simp [Tr.len])
  | .only i l, 0, listed, f, h, hlen, hp, hc, hv, hl, a, w, fs, s, hK => absurd hlen (by simp [Tr.len])
  | .both i l j q, 0, listed, f, h, hlen, hp, hc, hv, hl, a, w, fs, s, hK => absurd hlen (by simp [Tr.len])
  | .last i, 0, listed, f, h, hlen, hp, hc, hv, hl, a, w, fs, s, hK => absurd hlen (by simp [Tr.len])
  | .take i l, fuel + 1, listed, f, h, hlen, hp, hc, hv, hl, a, w, fs, s, hK => by
    simp only [trOk, Bool.and_eq_true (a := match ops[i]? with | some o => _ | none => false)] at hp
    simp only [vcTr] at hv
    obtain ⟨hp1, hp2⟩ := hp
    have hlen' : l.len ≤ fuel := by simp only [Tr.len] at hlen; omega
    cases ho : ops[i]? with
    | none => rw [ho] at hp1; cases hp1
    | some o =>
      have hdo : dstOk N o.dst = true := by
        simp only [opsOk, List.all_eq_true] at hok
        exact hok o (by rw [Array.mem_toList_iff]; exact Array.mem_of_getElem? ho)
      simp only [ho] at hp1 hv
      by_cases hs : silentB P o.op = true
      · rw [if_pos hs] at hp1 hv
        simp only [Bool.and_eq_true] at hp1
        have hir : i ∈ Region.ready .any ops listed := by simpa using hp1.2
        rcases vcG_wanted (N := N) hv with ⟨h1, h2⟩ | ⟨h1, h2⟩
        · obtain ⟨v, h3, h4⟩ := vcOp_silent hs hdo h1
          exact wpAnyM_first ho (Region.noSelect_spec hsel) (fun c a w q => hQ c a _ v w q) fuel listed a w hc (Region.free_spec ho hp1.1) hir (.inl ⟨h2 a fs, fun w' s' => h4 a w' fs s'⟩) (hl _ s) (vcTr_sound hok hsel hQ l fuel _ _ h hlen' hp2 (hc.set hir) h3 hl _ w (fs.put hdo v) s hK)
        · exact wpAnyM_first ho (Region.noSelect_spec hsel) (fun c a w q => hQ c a _ undef w q) fuel listed a w hc (Region.free_spec ho hp1.1) hir (.inr ⟨h2 a fs, rfl⟩) (hl _ s) (vcTr_sound hok hsel hQ l fuel _ _ h hlen' hp2 (hc.set hir) h1 hl _ w (fs.put hdo _) s hK)
      · rw [if_neg hs] at hp1 hv
        have hr : Region.ready .any ops listed = [i] := by simpa using hp1
        refine ⟨fun h0 => (by rw [hr] at h0; cases h0), fun j hj => ?_⟩
        obtain rfl : j = i := by rw [hr] at hj; simpa using hj
        exact .inl (vcG_op (hS := hS) hok fs s (R := fun f' h' => PH.Sub w0 hS h' ∧ vcTr P w0 hS ops l f' h' K) (by rw [ho]; exact hv) fun f' h' a' w' q r t => ⟨q.1 _ t, vcTr_sound hok hsel hQ l fuel _ f' h' hlen' hp2 (hc.set hj) q.2 q.1 a' w' r t hK⟩)
  | .only i l, fuel + 1, listed, f, h, hlen, hp, hc, hv, hl, a, w, fs, s, hK => by
    simp only [trOk, Bool.and_eq_true] at hp
    simp only [vcTr] at hv
    obtain ⟨hp1, hp2⟩ := hp
    have hlen' : l.len ≤ fuel := by simp only [Tr.len] at hlen; omega
    have hr : Region.ready .any ops listed = [i] := by simpa using hp1
    refine ⟨fun h0 => (by rw [hr] at h0; cases h0), fun j hj => ?_⟩
    obtain rfl : j = i := by rw [hr] at hj; simpa using hj
    exact .inl (vcG_op (hS := hS) hok fs s hv fun f' h' a' w' q r t => ⟨q.1 _ t, vcTr_sound hok hsel hQ l fuel _ f' h' hlen' hp2 (hc.set hj) q.2 q.1 a' w' r t hK⟩)
  | .last i, fuel + 1, listed, f, h, hlen, hp, hc, hv, hl, a, w, fs, s, hK => by
    simp only [trOk, Bool.and_eq_true, List.isEmpty_iff] at hp
    simp only [vcTr] at hv
    obtain ⟨⟨hp1, hsk⟩, hp2⟩ := hp
    have hr : Region.ready .any ops listed = [i] := by simpa using hp1
    refine ⟨fun h0 => (by rw [hr] at h0; cases h0), fun j hj => ?_⟩
    obtain rfl : j = i := by rw [hr] at hj; simpa using hj
    refine .inr ⟨hsk, vcG_op (hS := hS) hok fs s hv fun f' h' a' w' q r t => ?_⟩
    have := hK f' h' a' w' q r t
    cases fuel with
    | zero => exact ⟨hp2, this⟩
    | succ n => exact ⟨fun _ => this, fun i hi => by rw [hp2] at hi; cases hi⟩
  | .both i l j q, fuel + 1, listed, f, h, hlen, hp, hc, hv, hl, a, w, fs, s, hK => by
    simp only [trOk, Bool.and_eq_true] at hp
    simp only [vcTr] at hv
    obtain ⟨⟨hp1, hp2⟩, hp3⟩ := hp
    obtain ⟨hv1, hv2⟩ := hv
    have hl1 : l.len ≤ fuel := by simp only [Tr.len] at hlen; omega
    have hl2 : q.len ≤ fuel := by simp only [Tr.len] at hlen; omega
    have hr : Region.ready .any ops listed = [i, j] := by simpa using hp1
    refine ⟨fun h0 => (by rw [hr] at h0; cases h0), fun k hk => .inl ?_⟩
    have hk' : k = i ∨ k = j := by rw [hr] at hk; simpa using hk
    rcases hk' with rfl | rfl
    · exact vcG_op (hS := hS) hok fs s hv1 fun f' h' a' w' q' r t => ⟨q'.1 _ t, vcTr_sound hok hsel hQ l fuel _ f' h' hl1 hp2 (hc.set hk) q'.2 q'.1 a' w' r t hK⟩
    · exact vcG_op (hS := hS) hok fs s hv2 fun f' h' a' w' q' r t => ⟨q'.1 _ t, vcTr_sound hok hsel hQ q fuel _ f' h' hl2 hp3 (hc.set hk) q'.2 q'.1 a' w' r t hK⟩
def vcUS (P : Program) (w0 : World) (hS : PH) (ops : List Oper) (l : Tr) (f : Fr) (h : PH) (K : Fr → PH → Prop) (_ : Seal ops := ⟨⟩) (_ : Seal K := ⟨⟩) : Prop := vcTr P w0 hS ops.toArray l f h K
def vcUO (P : Program) (w0 : World) (hS : PH) (ops : List Oper) (o : Option Oper) (l : Tr) (f : Fr) (h : PH) (K : Fr → PH → Prop) (_ : Seal ops := ⟨⟩) (_ : Seal K := ⟨⟩) : Prop := match o with
  | some o => if silentB P o.op = true then vcG P w0 ops.toArray o f hS fun f' _ => vcTr P w0 hS ops.toArray l f' h K
      else vcG P w0 ops.toArray o f h fun f' h' => PH.Sub w0 hS h' ∧ vcTr P w0 hS ops.toArray l f' h' K
  | none => False
def vcUL (P : Program) (w0 : World) (hS : PH) (ops : List Oper) (o : Option Oper) (l : Tr) (f : Fr) (h : PH) (K : Fr → PH → Prop) (_ : Seal ops := ⟨⟩) (_ : Seal K := ⟨⟩) : Prop := match o with
  | some o => vcG P w0 ops.toArray o f h fun f' h' => PH.Sub w0 hS h' ∧ vcTr P w0 hS ops.toArray l f' h' K
  | none => False
def vcUE (P : Program) (w0 : World) (ops : List Oper) (o : Option Oper) (f : Fr) (h : PH) (K : Fr → PH → Prop) (_ : Seal ops := ⟨⟩) (_ : Seal K := ⟨⟩) : Prop := match o with
  | some o => vcG P w0 ops.toArray o f h K
  | none => False
theorem vcUS_done {f : Fr} (hS : PH) (ops : List Oper) : vcUS P w0 hS ops .done f h K = K f h := rfl
theorem vcUS_take {f : Fr} (hS : PH) (ops : List Oper) (i : Nat) (l : Tr) : vcUS P w0 hS ops (.take i l) f h K = vcUO P w0 hS ops (nthO ops i) l f h K := by
  unfold vcUS vcUO
  rw [nthO_eq]
  rfl
theorem vcUS_only {f : Fr} (hS : PH) (ops : List Oper) (i : Nat) (l : Tr) : vcUS P w0 hS ops (.only i l) f h K = vcUL P w0 hS ops (nthO ops i) l f h K := by
  unfold vcUS vcUL
  rw [nthO_eq]
  rfl
theorem vcUS_both {f : Fr} (hS : PH) (ops : List Oper) (i : Nat) (l : Tr) (j : Nat) (q : Tr) : vcUS P w0 hS ops (.both i l j q) f h K = (vcUL P w0 hS ops (nthO ops i) l f h K ∧ vcUL P w0 hS ops (nthO ops j) q f h K) := by
  unfold vcUS vcUL
  rw [nthO_eq, nthO_eq]
  rfl
theorem vcUS_last {f : Fr} (hS : PH) (ops : List Oper) (i : Nat) : vcUS P w0 hS ops (.last i) f h K = vcUE P w0 ops (nthO ops i) f h K := by
  unfold vcUS vcUE
  rw [nthO_eq]
  rfl
theorem vcUO_some {f : Fr} (hS : PH) (ops : List Oper) (o : Oper) (l : Tr) : vcUO P w0 hS ops (some o) l f h K = vcIf (silentB P o.op) (vcM P w0 ops.toArray [o] f hS fun f' _ => vcUS P w0 hS ops l f' h K) (vcM P w0 ops.toArray [o] f h fun f' h' => vcLe w0 hS h' (vcUS P w0 hS ops l f' h' K)) := by
  unfold vcUO
  cases hs : silentB P o.op
  · rw [vcIf_false, vcM_cons]; simp only [hs, Bool.false_eq_true, if_false]; rfl
  · rw [vcIf_true, vcM_cons]; simp only [hs, if_true]; rfl
theorem vcUL_some {f : Fr} (hS : PH) (ops : List Oper) (o : Oper) (l : Tr) : vcUL P w0 hS ops (some o) l f h K = vcM P w0 ops.toArray [o] f h fun f' h' => vcLe w0 hS h' (vcUS P w0 hS ops l f' h' K) := by
  unfold vcUL
  rw [vcM_cons]
  rfl
theorem vcUE_some {f : Fr} (ops : List Oper) (o : Oper) : vcUE P w0 ops (some o) f h K = vcM P w0 ops.toArray [o] f h K := by
  unfold vcUE
  rw [vcM_cons]
  rfl
theorem PW_tr {f : Fr} {id : Nat} {ops : List Oper} {Q : Exit → Fr → PH → Prop} (l : Tr) (hS : PH) (hm : P.follows .mixedOrders = true) (hp : trOk P ops.toArray l (Array.replicate ops.toArray.size false) = true) (hlen : Nat.ble l.len ops.toArray.size = true) (hok : opsOk N ops = true) (hsel : Region.noSelect ops.toArray = true)
    (hQ : ∀ c f h, ¬ Q (.panic c) f h) (hl : PH.Sub w0 hS h) (hv : vcUS P w0 hS ops l f h (Q .normal)) : PW P w0 N (.region id ops.toArray true) f h Q := by
  intro a w fs s
  refine wp_region_any hm (wpAnyM_any (S := Sim w0 hS) _ _ _ _ ?_)
  exact vcTr_sound (by simpa using hok) hsel (fun c a d v w => by rintro ⟨f', h', q, _⟩; exact absurd q (hQ c f' h')) l _ _ f h (Nat.le_of_ble_eq_true hlen) hp (fun k hk => by simp [Array.getD] at hk) hv hl a _ fs s.drew fun f' h' a' w' q r t => ⟨f', h', q, r, t⟩
end
end Go.Proofs.YtcjojkhieocehaaDoor.Px
