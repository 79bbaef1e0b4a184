/- A drawn region by a tree of plans: two operations that make memory may be ready at once. No condition. -/
import Derived.Test.YtcjojkhieocehaaDoorPb
namespace Go.Proofs.YtcjojkhieocehaaDoor.Px
set_option linter.unusedVariables false
set_option linter.unusedSimpArgs false
open Go.RowKit
/-- A plan: take one operation; or two that are ready at once, each with what comes behind it. -/
inductive Pl where
  | done
  | take (i : Nat) (p : Pl)
  | both (i : Nat) (p : Pl) (j : Nat) (q : Pl)
  | only (i : Nat) (p : Pl)
section
variable {P : Program} {w0 : World} {h : PH} {N : Nat} {K : Fr → PH → Prop}
def Pl.len : Pl → Nat
  | .done => 0
  | .take _ p => p.len + 1
  | .both _ p _ q => max p.len q.len + 1
  | .only _ p => p.len + 1
def planOkT (P : Program) (ops : Array Oper) : Pl → Array Bool → Bool
  | .done, listed => (Region.ready .any ops listed).isEmpty
  | .take i p, listed => (match ops[i]? with
    | some o => if silentB P o.op = true then Region.free .any ops listed i && (Region.ready .any ops listed).contains i else Region.ready .any ops listed == [i]
    | none => false) && planOkT P ops p (listed.setIfInBounds i true)
  | .both i p j q, listed => (Region.ready .any ops listed == [i, j]) && planOkT P ops p (listed.setIfInBounds i true) && planOkT P ops q (listed.setIfInBounds j true)
  | .only i p, listed => (Region.ready .any ops listed == [i]) && planOkT P ops p (listed.setIfInBounds i true)
def vcHT (P : Program) (w0 : World) (hS : PH) (ops : Array Oper) : Pl → Fr → PH → (Fr → PH → Prop) → Prop
  | .done, f, h, K => K f h
  | .take i p, f, h, K => match ops[i]? with
    | some o => if silentB P o.op = true then vcG P w0 ops o f hS fun f' _ => vcHT P w0 hS ops p f' h K
      else vcG P w0 ops o f h fun f' h' => PH.Sub w0 hS h' ∧ vcHT P w0 hS ops p f' h' K
    | none => False
  | .both i p j q, f, h, K => (match ops[i]? with
    | some o => vcG P w0 ops o f h fun f' h' => PH.Sub w0 hS h' ∧ vcHT P w0 hS ops p f' h' K
    | none => False) ∧ (match ops[j]? with
    | some o => vcG P w0 ops o f h fun f' h' => PH.Sub w0 hS h' ∧ vcHT P w0 hS ops q f' h' K
    | none => False)
  | .only i p, f, h, K => (match ops[i]? with
    | some o => vcG P w0 ops o f h fun f' h' => PH.Sub w0 hS h' ∧ vcHT P w0 hS ops p f' h' K
    | none => False)
theorem vcHT_sound {hS : PH} {ops : Array Oper} {Q : Exit → Act → World → Prop} (hok : opsOk N ops.toList = true) (hsel : Region.noSelect ops = true) (hQ : ∀ c a d v w, Q (.panic c) (Act.put a d v) w → Q (.panic c) a w) :
    ∀ (l : Pl) (fuel : Nat) (listed : Array Bool) (f : Fr) (h : PH), l.len ≤ fuel → planOkT P ops l listed = true → vcHT P w0 hS ops l f h K → PH.Sub w0 hS h →
      ∀ a w, FSat f a N → Sim w0 h w → (∀ f' h' a' w', K f' h' → FSat f' a' N → Sim w0 h' w' → Q .normal a' w') → wpAnyH P .any ops Q (Sim w0 hS) fuel listed a w
  | .done, fuel, listed, f, h, _, hp, hv, hl, a, w, fs, s, hK => by
    simp only [planOkT, List.isEmpty_iff] at hp
    exact wpAnyH_done hp (hK f h a w hv fs s) fuel
  | .take i l, 0, listed, f, h, hlen, hp, hv, hl, a, w, fs, s, hK => absurd hlen (by simp [Pl.len])
  | .both i l j q, 0, listed, f, h, hlen, hp, hv, hl, a, w, fs, s, hK => absurd hlen (by simp [Pl.len])
  | .only i l, 0, listed, f, h, hlen, hp, hv, hl, a, w, fs, s, hK => absurd hlen (by simp [Pl.len])
  | .only i l, fuel + 1, listed, f, h, hlen, hp, hv, hl, a, w, fs, s, hK => by
    simp only [planOkT, Bool.and_eq_true] at hp
    simp only [vcHT] at hv
    obtain ⟨hp1, hp2⟩ := hp
    have hl1 : l.len ≤ fuel := by simp only [Pl.len] at hlen; omega
    refine wpAnyH_all (rs := [i]) (by simpa using hp1) (by simp) fun k hk => ?_
    obtain rfl : k = i := by simpa using hk
    cases ho : ops[k]? with
    | none => rw [ho] at hv; exact hv.elim
    | some o =>
      have hdo : dstOk N o.dst = true := by
        simp only [opsOk, List.all_eq_true] at hok
        exact hok o (by rw [Array.mem_toList_iff]; exact Array.mem_of_getElem? ho)
      simp only [ho] at hv
      unfold wpOp
      simp only [ho]
      rcases vcG_wanted (N := N) hv with ⟨h1, h2⟩ | ⟨h1, h2⟩
      · rw [if_pos (h2 a fs)]
        exact .inl (vcOp_sound hdo h1 a w fs s _ _ fun f' h' a' w' q r t => ⟨q.1 _ t, vcHT_sound hok hsel hQ l fuel _ f' h' hl1 hp2 q.2 q.1 a' w' r t hK⟩)
      · rw [if_neg (by rw [h2 a fs]; simp)]
        exact ⟨hl _ s, vcHT_sound hok hsel hQ l fuel _ _ h hl1 hp2 h1.2 hl _ w (fs.put hdo _) s hK⟩
  | .take i l, fuel + 1, listed, f, h, hlen, hp, hv, hl, a, w, fs, s, hK => by
    simp only [planOkT, Bool.and_eq_true (a := match ops[i]? with | some o => _ | none => false)] at hp
    simp only [vcHT] at hv
    obtain ⟨hp1, hp2⟩ := hp
    cases ho : ops[i]? with
    | none => rw [ho] at hp1; cases hp1
    | some o =>
      have hdo : dstOk N o.dst = true := by
        simp only [opsOk, List.all_eq_true] at hok
        exact hok o (by rw [Array.mem_toList_iff]; exact Array.mem_of_getElem? ho)
      simp only [ho] at hp1 hv
      have hlen' : l.len ≤ fuel := by simp only [Pl.len] at hlen; omega
      by_cases hs : silentB P o.op = true
      · rw [if_pos hs] at hp1 hv
        simp only [Bool.and_eq_true] at hp1
        rcases vcG_wanted (N := N) hv with ⟨h1, h2⟩ | ⟨h1, h2⟩
        · obtain ⟨v, h3, h4⟩ := vcOp_silent hs hdo h1
          exact wpAnyH_take ho hsel hp1.1 hp1.2 (fun c a w q => hQ c a _ v w q) (.inl ⟨h2 a fs, fun w' s' => h4 a w' fs s'⟩) (hl _ s) (vcHT_sound hok hsel hQ l fuel _ _ h hlen' hp2 h3 hl _ w (fs.put hdo v) s hK)
        · exact wpAnyH_take ho hsel hp1.1 hp1.2 (fun c a w q => hQ c a _ undef w q) (.inr ⟨h2 a fs, rfl⟩) (hl _ s) (vcHT_sound hok hsel hQ l fuel _ _ h hlen' hp2 h1 hl _ w (fs.put hdo _) s hK)
      · rw [if_neg hs] at hp1 hv
        refine wpAnyH_all (rs := [i]) (by simpa using hp1) (by simp) fun j hj => ?_
        obtain rfl : j = i := by simpa using hj
        unfold wpOp
        simp only [ho]
        rcases vcG_wanted (N := N) hv with ⟨h1, h2⟩ | ⟨h1, h2⟩
        · rw [if_pos (h2 a fs)]
          exact .inl (vcOp_sound hdo h1 a w fs s _ _ fun f' h' a' w' q r t => ⟨q.1 _ t, vcHT_sound hok hsel hQ l fuel _ f' h' hlen' hp2 q.2 q.1 a' w' r t hK⟩)
        · rw [if_neg (by rw [h2 a fs]; simp)]
          exact ⟨hl _ s, vcHT_sound hok hsel hQ l fuel _ _ h hlen' hp2 h1.2 hl _ w (fs.put hdo _) s hK⟩
  | .both i l j q, fuel + 1, listed, f, h, hlen, hp, hv, hl, a, w, fs, s, hK => by
    simp only [planOkT, Bool.and_eq_true] at hp
    simp only [vcHT] at hv
    obtain ⟨⟨hp1, hp2⟩, hp3⟩ := hp
    obtain ⟨hv1, hv2⟩ := hv
    have hl1 : l.len ≤ fuel := by simp only [Pl.len] at hlen; omega
    have hl2 : q.len ≤ fuel := by simp only [Pl.len] at hlen; omega
    refine wpAnyH_all (rs := [i, j]) (by simpa using hp1) (by simp) fun k hk => ?_
    have key : ∀ (k : Nat) (m : Pl), m.len ≤ fuel → planOkT P ops m (listed.setIfInBounds k true) = true → (match ops[k]? with
        | some o => vcG P w0 ops o f h fun f' h' => PH.Sub w0 hS h' ∧ vcHT P w0 hS ops m f' h' K
        | none => False) → (∀ (f' : Fr) (h' : PH), vcHT P w0 hS ops m f' h' K → PH.Sub w0 hS h' → ∀ a w, FSat f' a N → Sim w0 h' w → wpAnyH P .any ops Q (Sim w0 hS) fuel (listed.setIfInBounds k true) a w) → wpOp P ops Q k (fun a' w' => Sim w0 hS w' ∧ wpAnyH P .any ops Q (Sim w0 hS) fuel (listed.setIfInBounds k true) a' w') a w := fun k m _ _ hvk rec => by
      cases ho : ops[k]? with
      | none => rw [ho] at hvk; exact hvk.elim
      | some o =>
        have hdo : dstOk N o.dst = true := by
          simp only [opsOk, List.all_eq_true] at hok
          exact hok o (by rw [Array.mem_toList_iff]; exact Array.mem_of_getElem? ho)
        simp only [ho] at hvk
        unfold wpOp
        simp only [ho]
        rcases vcG_wanted (N := N) hvk with ⟨h1, h2⟩ | ⟨h1, h2⟩
        · rw [if_pos (h2 a fs)]
          exact .inl (vcOp_sound hdo h1 a w fs s _ _ fun f' h' a' w' q r t => ⟨q.1 _ t, rec f' h' q.2 q.1 a' w' r t⟩)
        · rw [if_neg (by rw [h2 a fs]; simp)]
          exact ⟨hl _ s, rec _ h h1.2 hl _ w (fs.put hdo _) s⟩
    simp only [List.mem_cons, List.not_mem_nil, or_false] at hk
    rcases hk with rfl | rfl
    · exact key _ l hl1 hp2 hv1 fun f' h' v' s' a w fs' sm => vcHT_sound hok hsel hQ l fuel _ f' h' hl1 hp2 v' s' a w fs' sm hK
    · exact key _ q hl2 hp3 hv2 fun f' h' v' s' a w fs' sm => vcHT_sound hok hsel hQ q fuel _ f' h' hl2 hp3 v' s' a w fs' sm hK
def vcTS (P : Program) (w0 : World) (hS : PH) (ops : List Oper) (l : Pl) (f : Fr) (h : PH) (K : Fr → PH → Prop) (_ : Seal ops := ⟨⟩) (_ : Seal K := ⟨⟩) : Prop := vcHT P w0 hS ops.toArray l f h K
def vcTO (P : Program) (w0 : World) (hS : PH) (ops : List Oper) (o : Option Oper) (l : Pl) (f : Fr) (h : PH) (K : Fr → PH → Prop) (_ : Seal ops := ⟨⟩) (_ : Seal K := ⟨⟩) : Prop := match o with
  | some o => if silentB P o.op = true then vcG P w0 ops.toArray o f hS fun f' _ => vcHT P w0 hS ops.toArray l f' h K
      else vcG P w0 ops.toArray o f h fun f' h' => PH.Sub w0 hS h' ∧ vcHT P w0 hS ops.toArray l f' h' K
  | none => False
def vcTL (P : Program) (w0 : World) (hS : PH) (ops : List Oper) (o : Option Oper) (l : Pl) (f : Fr) (h : PH) (K : Fr → PH → Prop) (_ : Seal ops := ⟨⟩) (_ : Seal K := ⟨⟩) : Prop := match o with
  | some o => vcG P w0 ops.toArray o f h fun f' h' => PH.Sub w0 hS h' ∧ vcHT P w0 hS ops.toArray l f' h' K
  | none => False
theorem vcTS_done {f : Fr} (hS : PH) (ops : List Oper) : vcTS P w0 hS ops .done f h K = K f h := rfl
theorem vcTS_take {f : Fr} (hS : PH) (ops : List Oper) (i : Nat) (l : Pl) : vcTS P w0 hS ops (.take i l) f h K = vcTO P w0 hS ops (nthO ops i) l f h K := by
  unfold vcTS vcTO
  rw [nthO_eq]
  rfl
theorem vcTS_both {f : Fr} (hS : PH) (ops : List Oper) (i : Nat) (l : Pl) (j : Nat) (q : Pl) : vcTS P w0 hS ops (.both i l j q) f h K = (vcTL P w0 hS ops (nthO ops i) l f h K ∧ vcTL P w0 hS ops (nthO ops j) q f h K) := by
  unfold vcTS vcTL
  rw [nthO_eq, nthO_eq]
  rfl
theorem vcTS_only {f : Fr} (hS : PH) (ops : List Oper) (i : Nat) (l : Pl) : vcTS P w0 hS ops (.only i l) f h K = vcTL P w0 hS ops (nthO ops i) l f h K := by
  unfold vcTS vcTL
  rw [nthO_eq]
  rfl
theorem vcTO_some {f : Fr} (hS : PH) (ops : List Oper) (o : Oper) (l : Pl) : vcTO P w0 hS ops (some o) l f h K = vcIf (silentB P o.op) (vcM P w0 ops.toArray [o] f hS fun f' _ => vcTS P w0 hS ops l f' h K) (vcM P w0 ops.toArray [o] f h fun f' h' => vcLe w0 hS h' (vcTS P w0 hS ops l f' h' K)) := by
  unfold vcTO
  cases hs : silentB P o.op
  · rw [vcIf_false, vcM_cons]; simp only [hs, Bool.false_eq_true, if_false]; rfl
  · rw [vcIf_true, vcM_cons]; simp only [hs, if_true]; rfl
theorem vcTL_some {f : Fr} (hS : PH) (ops : List Oper) (o : Oper) (l : Pl) : vcTL P w0 hS ops (some o) l f h K = vcM P w0 ops.toArray [o] f h fun f' h' => vcLe w0 hS h' (vcTS P w0 hS ops l f' h' K) := by
  unfold vcTL
  rw [vcM_cons]
  rfl
theorem PW_tree {f : Fr} {id : Nat} {ops : List Oper} {Q : Exit → Fr → PH → Prop} (l : Pl) (hS : PH) (hm : P.follows .mixedOrders = true) (hp : planOkT P ops.toArray l (Array.replicate ops.toArray.size false) = true) (hlen : Nat.ble l.len ops.toArray.size = true) (hok : opsOk N ops = true) (hsel : Region.noSelect ops.toArray = true)
    (hQ : ∀ c f h, ¬ Q (.panic c) f h) (hl : PH.Sub w0 hS h) (hv : vcTS P w0 hS ops l f h (Q .normal)) : PW P w0 N (.region id ops.toArray true) f h Q := by
  intro a w fs s
  refine wp_region_held (S := Sim w0 hS) hm ?_
  exact vcHT_sound (by simpa using hok) hsel (fun c a d v w => by rintro ⟨f', h', q, _⟩; exact absurd q (hQ c f' h')) l _ _ f h (Nat.le_of_ble_eq_true hlen) hp hv hl a _ fs s.drew fun f' h' a' w' q r t => ⟨f', h', q, r, t⟩
/-- What is shown of a region may be weakened. -/
theorem PW_mono {c : Code} {f : Fr} {Q Q' : Exit → Fr → PH → Prop} (hc : PW P w0 N c f h Q) (hi : ∀ e f h, Q e f h → Q' e f h) : PW P w0 N c f h Q' := fun a w fs s => wp_mono (hc a w fs s) fun e a' w' ⟨f', h', q, r, t⟩ => ⟨f', h', hi e f' h' q, r, t⟩
end
end Go.Proofs.YtcjojkhieocehaaDoor.Px
