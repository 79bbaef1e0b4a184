/- Parts Jk5, Jk6, Jk7, joined. No condition. -/
import Derived.Test.YtblikpbaeippaaaM9K
namespace Go.Proofs.Ytblikpbaeippaaa
set_option linter.unusedVariables false
set_option linter.unusedSimpArgs false
open Go.RowKit Px Wr

structure TR (B : Nat) (q h : PH) (xb : Nat) (C : List Value) (s1 : Nat) (v1 : Value) (n1 : Nat) (X : List Value) (s2 : Nat) (v2 : Value) (n2 : Nat) (Y : List Value) : Prop where
  bound : B ≤ q.top
  le : PH.Le q h
  cell : h.m xb = some ⟨C, 5⟩
  low : q.m xb = none
  o1 : Own h s1 v1 n1 X
  o2 : Own h s2 v2 n2 Y
  w1 : ∀ x, v1.ownBlock = some x → q.m x = none ∧ x ≠ xb ∧ B ≤ x
  w2 : ∀ x, v2.ownBlock = some x → q.m x = none ∧ x ≠ xb ∧ B ≤ x
  dis : ∀ x, v1.ownBlock = some x → v2.ownBlock ≠ some x
section
variable {B : Nat} {q h h' : PH} {xb : Nat} {C C' : List Value} {s1 s2 : Nat} {v1 v1' : Value} {n1 m : Nat} {X X' : List Value} {v2 v2' : Value} {n2 : Nat} {Y Y' : List Value}
theorem TR.mono (t : TR B q h xb C s1 v1 n1 X s2 v2 n2 Y) (l : PH.Le h h') : TR B q h' xb C s1 v1 n1 X s2 v2 n2 Y := ⟨t.bound, t.le.trans l, l.m _ _ t.cell, t.low, t.o1.more l, t.o2.more l, t.w1, t.w2, t.dis⟩
theorem TR.app1 (t : TR B q h xb C s1 v1 n1 X s2 v2 n2 Y) (st : Stays h h' v1 v1') (o : Own h' s1 v1' m X') : TR B q h' xb C s1 v1' m X' s2 v2 n2 Y := by
  have hlt := h.lt _ _ t.cell
  refine ⟨t.bound, ⟨Nat.le_trans t.le.top st.top, fun x k e => st.keep x k (t.le.m x k e) fun hv => by rw [(t.w1 x hv).1] at e; cases e⟩, st.keep _ _ t.cell fun hv => (t.w1 _ hv).2.1 rfl, t.low, o, t.o2.keep st fun x hx => t.dis x hx, fun x hx => ?_, t.w2, fun x hx => ?_⟩
  · rcases st.fresh x hx with h1 | h1
    · exact t.w1 x h1
    · exact ⟨q.gone (Nat.le_trans t.le.top h1), by omega, Nat.le_trans (Nat.le_trans t.bound t.le.top) h1⟩
  · rcases st.fresh x hx with h1 | h1
    · exact t.dis x h1
    · intro e
      have := t.o2.block e
      omega
theorem TR.app2 (t : TR B q h xb C s1 v1 n1 X s2 v2 n2 Y) (st : Stays h h' v2 v2') (o : Own h' s2 v2' m Y') : TR B q h' xb C s1 v1 n1 X s2 v2' m Y' := by
  have hlt := h.lt _ _ t.cell
  refine ⟨t.bound, ⟨Nat.le_trans t.le.top st.top, fun x k e => st.keep x k (t.le.m x k e) fun hv => by rw [(t.w2 x hv).1] at e; cases e⟩, st.keep _ _ t.cell fun hv => (t.w2 _ hv).2.1 rfl, t.low, t.o1.keep st fun x hx e => t.dis x e hx, o, t.w1, fun x hx => ?_, fun x hx => ?_⟩
  · rcases st.fresh x hx with h1 | h1
    · exact t.w2 x h1
    · exact ⟨q.gone (Nat.le_trans t.le.top h1), by omega, Nat.le_trans (Nat.le_trans t.bound t.le.top) h1⟩
  · intro e
    rcases st.fresh x e with h1 | h1
    · exact t.dis x hx h1
    · have := t.o1.block hx
      omega
theorem TR.raise (t : TR B q h xb C s1 v1 n1 X s2 v2 n2 Y) {x : Nat} (hx : h.top ≤ x) (k : Bk) : TR B (q.new x k) (h.new x k) xb C s1 v1 n1 X s2 v2 n2 Y := by
  have l := (PH.Le.refl h).new x k hx
  have t' := t.mono l
  have hn : ∀ y, y < h.top → q.m y = none → (q.new x k).m y = none := fun y q1 q2 => by rw [PH.new_m, if_neg (by omega)]; exact q2
  refine ⟨by simp only [PH.new_top]; have := t.bound; omega, ⟨by simp only [PH.new_top]; have := t.le.top; omega, fun y j e => ?_⟩, t'.cell, hn _ (h.lt _ _ t.cell) t.low, t'.o1, t'.o2, fun y e => ⟨hn _ (t.o1.block e) (t.w1 y e).1, (t.w1 y e).2⟩, fun y e => ⟨hn _ (t.o2.block e) (t.w2 y e).1, (t.w2 y e).2⟩, t.dis⟩
  rw [PH.new_m] at e ⊢
  split
  · rename_i r; rw [if_pos r] at e; exact e
  · rename_i r; rw [if_neg r] at e; exact t.le.m y j e
theorem TR.lower {q0 : PH} (t : TR B q h xb C s1 v1 n1 X s2 v2 n2 Y) (l : PH.Le q0 q) (hB : B ≤ q0.top) : TR B q0 h xb C s1 v1 n1 X s2 v2 n2 Y := by
  have hn : ∀ x, q.m x = none → q0.m x = none := fun x e => by
    cases hk : q0.m x with
    | none => rfl
    | some k => rw [l.m _ _ hk] at e; cases e
  exact ⟨hB, l.trans t.le, t.cell, hn _ t.low, t.o1, t.o2, fun x e => ⟨hn _ (t.w1 x e).1, (t.w1 x e).2⟩, fun x e => ⟨hn _ (t.w2 x e).1, (t.w2 x e).2⟩, t.dis⟩
theorem TR.set (t : TR B q h xb C s1 v1 n1 X s2 v2 n2 Y) (C' : List Value) : TR B q (h.new xb ⟨C', 5⟩) xb C' s1 v1 n1 X s2 v2 n2 Y :=
  ⟨t.bound, ⟨by simp only [PH.new_top]; have := t.le.top; omega, fun y j e => by rw [PH.new_m, if_neg (fun r => by subst r; rw [t.low] at e; cases e)]; exact t.le.m y j e⟩, by rw [PH.new_m, if_pos rfl], t.low, t.o1.put (fun e => (t.w1 _ e).2.1 rfl) _, t.o2.put (fun e => (t.w2 _ e).2.1 rfl) _, t.w1, t.w2, t.dis⟩
theorem TR.nil (q : PH) {xb : Nat} (hx : q.top ≤ xb) (C : List Value) (s1 s2 : Nat) : TR q.top q (q.new xb ⟨C, 5⟩) xb C s1 (.slice none 0 0) 0 [] s2 (.slice none 0 0) 0 [] :=
  ⟨Nat.le_refl _, (PH.Le.refl q).new _ _ hx, by rw [PH.new_m, if_pos rfl], q.gone hx, Own.nil _ _, Own.nil _ _, (fun x e => by cases e), (fun x e => by cases e), (fun x e => by cases e)⟩
theorem TR.held (t : TR B q h xb C s1 v1 n1 X s2 v2 n2 Y) : PH.Le (q.new xb ⟨C, 5⟩) h := t.le.new1 t.cell
end
theorem zC7 (cs : List Value) (h : cs.all (·.oneCell') = true) : allOne cs := fun v hv => List.all_eq_true.1 h v hv
theorem Px.Own.at {h h' : PH} {sz n : Nat} {v : Value} {xs : List Value} (o : Own h sz v n xs) (hk : ∀ x k, v.ownBlock = some x → h.m x = some k → h'.m x = some k) : Own h' sz v n xs :=
  ⟨o.1, o.2.imp id fun ⟨b, c, h1, h2, h3, h4⟩ => ⟨b, c, h1, h2, h3, hk b _ (by rw [h1]; rfl) h4⟩⟩
theorem DS.setOut {h0 h : PH} {b x : Nat} {d : Dk} {k : Bk} (hd : DS h0 h b d) (hx : h0.m x = some k) (k' : Bk) : DS (h0.del x) (h.new x k') b d := by
  obtain ⟨A, c, h1, h2, h5⟩ := hd.cells
  have hbx : b ≠ x := fun e => by subst e; rw [hd.low] at hx; cases hx
  have hn : ∀ y, h0.m y = none → (h0.del x).m y = none := fun y q => by
    rw [PH.del_m]; split
    · rfl
    · exact q
  refine ⟨by simp only [PH.new_top, PH.del_top]; have := hd.top; omega, hn _ hd.low, fun y j q => ?_, A, c, by rw [PH.new_m, if_neg hbx]; exact h1, h2.same fun a e => ?_, fun a e => ⟨hn _ (h5 a e).1, (h5 a e).2⟩⟩
  · rw [PH.del_m] at q
    by_cases r : y = x
    · rw [if_pos r] at q; cases q
    · rw [if_neg r] at q; rw [PH.new_m, if_neg r]; exact hd.same y j q
  · rw [PH.new_m, if_neg fun r => by rw [← r, (h5 a e).1] at hx; cases hx]
theorem info_pt : (Try.prog.info? 73).map (fun i => (i.zero, i.size, i.bytes)) = some (some (.agg #[.int .i64 0, .int .i64 0, .int .i64 0, .string ⟨#[]⟩]), 4, 40) := by kernel_rfl
theorem el_pt : El Try.prog 61 73 (.agg #[.int .i64 0, .int .i64 0, .int .i64 0, .string ⟨#[]⟩]) 4 40 := ⟨Try.underlying61, info_parts info_pt, rfl, by decide⟩
def endsP (ps : List Pt) : List Int := (List.range ps.length).map fun i => ((flatP (ps.take (i + 1))).length : Int)
theorem zF2 (ps : List Pt) : (endsP ps).length = ps.length := by simp [endsP]
theorem endsP_snoc (ps : List Pt) (x : Pt) : endsP (ps ++ [x]) = endsP ps ++ [((flatP (ps ++ [x])).length : Int)] := by
  unfold endsP
  rw [List.length_append, List.length_singleton, List.range_succ, List.map_append]
  congr 1
  · apply List.map_congr_left
    intro i hi
    rw [List.take_append_of_le_length (by have := List.mem_range.1 hi; omega)]
  · simp only [List.map_cons, List.map_nil]
    rw [List.take_of_length_le (by simp)]
theorem endsP_get {ps : List Pt} {i : Nat} (h : i < ps.length) : (endsP ps)[i]? = some ((flatP (ps.take (i + 1))).length : Int) := by
  unfold endsP
  rw [List.getElem?_map, List.getElem?_range h]; rfl
theorem zEh : ∀ ps : List Pt, ps.length ≤ (flatP ps).length
  | [] => by simp
  | x :: ps => by
    have := zEh ps
    have := zB9 x
    rw [zBo, List.length_append, List.length_cons]; omega
end Go.Proofs.Ytblikpbaeippaaa


namespace Go.Proofs.Ytblikpbaeippaaa
set_option linter.unusedVariables false
set_option linter.unusedSimpArgs false
open Go.RowKit Px Wr
def LK (w0 : World) (F : Nat) (h : PH) (s : List UInt8) (L : List Value) : Prop := ∃ ps A c B c2 cor, (∀ a, A = some a → F ≤ a.block) ∧ (∀ a, B = some a → F ≤ a.block) ∧ Scan s ps ∧ (cor = true ↔ Corrupt s (flatP ps).length) ∧ L = lkL A ps.length c B ps.length c2 (flatP ps).length cor (!cor && ordB ps) ∧ Rv w0 h A (ptsL ps) ∧ Rv w0 h B (ints (endsP ps)) ∧ ps.length ≤ c ∧ ps.length ≤ c2
theorem zEs {s : List UInt8} {a : Nat} {q : Pt × Nat} (h : partAt s a = some q) : s[a]? = some 1 := by
  unfold partAt openO at h
  by_cases hc : 0 ≤ (a : Int) ∧ (a : Int) < s.length ∧ s.getD (a : Int).toNat 0 = 1
  · obtain ⟨_, h2, h3⟩ := hc
    rw [Int.toNat_natCast] at h3
    rw [List.getD, List.getElem?_eq_getElem (by omega)] at h3
    rw [List.getElem?_eq_getElem (by omega), ← h3]; rfl
  · rw [if_neg hc] at h; cases h
theorem first_ex (s : List UInt8) (a : Nat) : ∃ v, First s a v := by
  by_cases h : ∃ k : Nat, a ≤ k ∧ s[k]? = some 1
  · have hk : ∃ k : Nat, (a ≤ k ∧ s[k]? = some 1) ∧ ∀ j, j < k → ¬ (a ≤ j ∧ s[j]? = some 1) := by
      obtain ⟨k, hk⟩ := h
      induction k using Nat.strongRecOn with
      | _ k ih =>
        by_cases hj : ∃ j, j < k ∧ (a ≤ j ∧ s[j]? = some 1)
        · obtain ⟨j, h1, h2⟩ := hj; exact ih j h1 h2
        · exact ⟨k, hk, fun j h1 h2 => hj ⟨j, h1, h2⟩⟩
    obtain ⟨k, ⟨h1, h2⟩, h3⟩ := hk
    exact ⟨k, .inl ⟨k, rfl, by omega, h2, fun j hj haj e => h3 j hj ⟨by omega, e⟩⟩⟩
  · exact ⟨-1, .inr ⟨rfl, fun j haj e => h ⟨j, by omega, e⟩⟩⟩
set_option maxRecDepth 20000 in
set_option maxHeartbeats 8000000 in
theorem jscan_any {h0 : PH} {b : Nat} {d : Dk} (w0 : World) (h : PH) (hd : DS h0 h b d) (g : Good d) (hup : d.down = false) : PCalls Try.prog w0 27 [.pointer (some ⟨b, 0, none⟩)] h fun v h' => ∃ L h1, v = .tuple #[.agg L.toArray, .nilIface] ∧ PH.Le h0 h1 ∧ DS h1 h' b d ∧ LK w0 h.top h1 d.l L := by
  refine zAp Try.func27 (by kernel_rfl) rfl _ Try.ntmps27 (by kernel_rfl) (by kernel_rfl) _ Try.results27 ?_
  simp -dsimp -implicitDefEqProofs (disch := first | omega | assumption | (simp only [Option.isSome_some,Qt0]; done) | (simp only [List.length_cons,List.length_nil,List.length_append,Int.toNat_natCast] <;> omega) | fail) only [Nat.reduceLT,Nat.reduceLeDiff,Nat.reduceEqDiff,↓reduceIte,Int.reduceLT,Int.reduceLE,Int.reduceToNat,Int.reduceEq,Int.reduceNe,Nat.reduceAdd,Int.reduceAdd,Int.reduceSub,Int.reduceMul,Nat.reduceMul,Qp0,Qp1,Ql0,Qe0]
  refine fun rb hrb => ?_
  have hd1 := hd.new (k := ⟨[.slice none 0 0, .slice none 0 0, .int .i64 0, .bool false, .bool false], 5⟩) hrb
  have hl00 : PH.Le h0 (h0.new rb ⟨[.slice none 0 0, .slice none 0 0, .int .i64 0, .bool false, .bool false], 5⟩) := (PH.Le.refl h0).new _ _ (Nat.le_trans hd.top hrb)
  have hrb0 : h0.top ≤ rb := Nat.le_trans hd.top hrb
  have hm1 : (h0.new rb ⟨[.slice none 0 0, .slice none 0 0, .int .i64 0, .bool false, .bool false], 5⟩).m rb = some ⟨[.slice none 0 0, .slice none 0 0, .int .i64 0, .bool false, .bool false], 5⟩ := by rw [PH.new_m, if_pos rfl]
  generalize h0.new rb ⟨[.slice none 0 0, .slice none 0 0, .int .i64 0, .bool false, .bool false], 5⟩ = hB at *
  simp -dsimp -implicitDefEqProofs (disch := first | omega | assumption | (simp only [Option.isSome_some,Qt0]; done) | (simp only [List.length_cons,List.length_nil,List.length_append,Int.toNat_natCast] <;> omega) | fail) only [Nat.reduceLT,Nat.reduceLeDiff,Nat.reduceEqDiff,↓reduceIte,Int.reduceLT,Int.reduceLE,Int.reduceToNat,Int.reduceEq,Int.reduceNe,Nat.reduceAdd,Int.reduceAdd,Int.reduceSub,Int.reduceMul,Nat.reduceMul,Qp0,Qp1,Ql0,Qe0]
  generalize h.new rb ⟨[.slice none 0 0, .slice none 0 0, .int .i64 0, .bool false, .bool false], 5⟩ = h1 at *
  have hL := len_any hB b d w0 h1 hd1
  rw [if_neg (by rw [hup]; decide)] at hL
  refine hL.mono ?_
  rintro v hz ⟨rfl, hz'⟩
  obtain rfl := hz'.symm
  simp -dsimp -implicitDefEqProofs (disch := first | omega | assumption | (simp only [Option.isSome_some,Qt0]; done) | (simp only [List.length_cons,List.length_nil,List.length_append,Int.toNat_natCast] <;> omega) | fail) only [Nat.reduceLT,Nat.reduceLeDiff,Nat.reduceEqDiff,↓reduceIte,Int.reduceLT,Int.reduceLE,Int.reduceToNat,Int.reduceEq,Int.reduceNe,Nat.reduceAdd,Int.reduceAdd,Int.reduceSub,Int.reduceMul,Nat.reduceMul,Qp0,Qp1,Ql0,Qe0]
  refine (kread_any hB b d w0 h1 hd1 g 0 d.l.length).mono ?_
  rintro v h2 ⟨u, rfl, hd2, he2⟩
  have hrd : d.read 0 d.l.length = (d.l, none) := by
    unfold Dk.read
    rw [if_neg (by rw [hup]; decide), if_neg (by omega)]
    simp
  rw [hrd] at he2 ⊢
  obtain rfl : u = .nilIface := he2
  have hlen := g.len
  obtain ⟨s, hs⟩ : ∃ s, d.l = s := ⟨_, rfl⟩
  rw [hs] at hlen ⊢
  have hr2 := hd2.same _ _ hm1
  simp -dsimp -implicitDefEqProofs (disch := first | omega | assumption | (simp only [Option.isSome_some,Qt0]; done) | (simp only [List.length_cons,List.length_nil,List.length_append,Int.toNat_natCast] <;> omega) | fail) only [Nat.reduceLT,Nat.reduceLeDiff,Nat.reduceEqDiff,↓reduceIte,Int.reduceLT,Int.reduceLE,Int.reduceToNat,Int.reduceEq,Int.reduceNe,Nat.reduceAdd,Int.reduceAdd,Int.reduceSub,Int.reduceMul,Nat.reduceMul,Qp0,Qp1,Ql0,Qe0]
  refine fun xb hxb => ?_
  have t0 := TR.nil h2 hxb [.slice none 0 0, .slice none 0 0, .int .i64 0, .bool false, .bool false] 4 1
  simp -dsimp -implicitDefEqProofs (disch := first | omega | assumption | (simp only [Option.isSome_some,Qt0]; done) | (simp only [List.length_cons,List.length_nil,List.length_append,Int.toNat_natCast] <;> omega) | fail) only [Nat.reduceLT,Nat.reduceLeDiff,Nat.reduceEqDiff,↓reduceIte,Int.reduceLT,Int.reduceLE,Int.reduceToNat,Int.reduceEq,Int.reduceNe,Nat.reduceAdd,Int.reduceAdd,Int.reduceSub,Int.reduceMul,Nat.reduceMul,Qp0,Qp1,Ql0,Qe0]
  generalize h2.new xb ⟨[.slice none 0 0, .slice none 0 0, .int .i64 0, .bool false, .bool false], 5⟩ = h3 at *
  refine zCo (Q := fun e f h' => e = .exit 0 ∧ ∃ ps v1 v2, f 2 = some (.pointer (some ⟨rb, 0, none⟩)) ∧ f 4 = some (str s) ∧ f 6 = some (.pointer (some ⟨xb, 0, none⟩)) ∧ TR h2.top h2 h' xb [v1, v2, .int .i64 (flatP ps).length, .bool false, .bool false] 4 v1 ps.length (ptsL ps) 1 v2 ps.length (ints (endsP ps)) ∧ Scan s ps) ?_ (fun e f h' ⟨he, ps, v1, v2, f2, f4, f6, tr, hsc⟩ => ?_)
  · refine zBs (fun m f h' => ∃ ps v1 v2 r, m = r.length ∧ f 2 = some (.pointer (some ⟨rb, 0, none⟩)) ∧ f 4 = some (str s) ∧ f 6 = some (.pointer (some ⟨xb, 0, none⟩)) ∧ TR h2.top h2 h' xb [v1, v2, .int .i64 (flatP ps).length, .bool false, .bool false] 4 v1 ps.length (ptsL ps) 1 v2 ps.length (ints (endsP ps)) ∧ AllOk ps ∧ s = flatP ps ++ r) (by kernel_rfl) s.length ⟨[], _, _, s, rfl, ?_, ?_, ?_, t0, (fun x hx => by cases hx), rfl⟩ ?_
    · simp -dsimp -implicitDefEqProofs (disch := first | omega | assumption | (simp only [Option.isSome_some,Qt0]; done) | (simp only [List.length_cons,List.length_nil,List.length_append,Int.toNat_natCast] <;> omega) | fail) only [Nat.reduceLT,Nat.reduceLeDiff,Nat.reduceEqDiff,↓reduceIte,Int.reduceLT,Int.reduceLE,Int.reduceToNat,Int.reduceEq,Int.reduceNe,Nat.reduceAdd,Int.reduceAdd,Int.reduceSub,Int.reduceMul,Nat.reduceMul,Qp0,Qp1,Ql0,Qe0]
    · simp -dsimp -implicitDefEqProofs (disch := first | omega | assumption | (simp only [Option.isSome_some,Qt0]; done) | (simp only [List.length_cons,List.length_nil,List.length_append,Int.toNat_natCast] <;> omega) | fail) only [Nat.reduceLT,Nat.reduceLeDiff,Nat.reduceEqDiff,↓reduceIte,Int.reduceLT,Int.reduceLE,Int.reduceToNat,Int.reduceEq,Int.reduceNe,Nat.reduceAdd,Int.reduceAdd,Int.reduceSub,Int.reduceMul,Nat.reduceMul,Qp0,Qp1,Ql0,Qe0]
    · simp -dsimp -implicitDefEqProofs (disch := first | omega | assumption | (simp only [Option.isSome_some,Qt0]; done) | (simp only [List.length_cons,List.length_nil,List.length_append,Int.toNat_natCast] <;> omega) | fail) only [Nat.reduceLT,Nat.reduceLeDiff,Nat.reduceEqDiff,↓reduceIte,Int.reduceLT,Int.reduceLE,Int.reduceToNat,Int.reduceEq,Int.reduceNe,Nat.reduceAdd,Int.reduceAdd,Int.reduceSub,Int.reduceMul,Nat.reduceMul,Qp0,Qp1,Ql0,Qe0]
      try rfl
    rintro m f h' ⟨ps, v1, v2, r, hm, f2, f4, f6, tr, hok, hsr0⟩
    have hcl := tr.cell
    have hsl : s.length = (flatP ps).length + r.length := by rw [hsr0, List.length_append]
    by_cases hr0 : r = []
    · have e1 : decide (((flatP ps).length : Int) < (s.length : Int)) = false := decide_eq_false (by rw [hsl, hr0]; simp)
      simp -dsimp -implicitDefEqProofs (disch := first | omega | assumption | (simp only [Option.isSome_some,Qt0]; done) | (simp only [List.length_cons,List.length_nil,List.length_append,Int.toNat_natCast] <;> omega) | fail) only [Nat.reduceLT,Nat.reduceLeDiff,Nat.reduceEqDiff,↓reduceIte,Int.reduceLT,Int.reduceLE,Int.reduceToNat,Int.reduceEq,Int.reduceNe,Nat.reduceAdd,Int.reduceAdd,Int.reduceSub,Int.reduceMul,Nat.reduceMul,Qp0,Qp1,Ql0,Qe0,f2,f4,f6,zAa,zAb,hcl,e1]
      refine ⟨by trivial, ps, v1, v2, by simp [f2], by simp [f4], by simp [f6], tr, ?_⟩
      rw [hsr0, hr0, List.append_nil]
      exact Scan.full hok
    have hrp : 0 < r.length := List.length_pos_iff.2 hr0
    have e1 : decide (((flatP ps).length : Int) < (s.length : Int)) = true := decide_eq_true (by omega)
    simp -dsimp -implicitDefEqProofs (disch := first | omega | assumption | (simp only [Option.isSome_some,Qt0]; done) | (simp only [List.length_cons,List.length_nil,List.length_append,Int.toNat_natCast] <;> omega) | fail) only [Nat.reduceLT,Nat.reduceLeDiff,Nat.reduceEqDiff,↓reduceIte,Int.reduceLT,Int.reduceLE,Int.reduceToNat,Int.reduceEq,Int.reduceNe,Nat.reduceAdd,Int.reduceAdd,Int.reduceSub,Int.reduceMul,Nat.reduceMul,Qp0,Qp1,Ql0,Qe0,f2,f4,f6,zAa,zAb,hcl,e1]
    refine (jopen_any s (flatP ps).length (by omega) w0 h').mono ?_
    rintro v h4 ⟨hjo, hl4⟩
    have hpsl := zEh ps
    have hdrop : s.drop (flatP ps).length = r := by rw [hsr0]; exact List.drop_left
    unfold JO at hjo
    cases hp : partAt s (flatP ps).length with
    | none =>
      rw [hp] at hjo
      simp only at hjo
      subst hjo
      have ha := one4 0 0 0 []
      simp -dsimp -implicitDefEqProofs (disch := first | omega | assumption | (simp only [Option.isSome_some,Qt0]; done) | (simp only [List.length_cons,List.length_nil,List.length_append,Int.toNat_natCast] <;> omega) | fail) only [Nat.reduceLT,Nat.reduceLeDiff,Nat.reduceEqDiff,↓reduceIte,Int.reduceLT,Int.reduceLE,Int.reduceToNat,Int.reduceEq,Int.reduceNe,Nat.reduceAdd,Int.reduceAdd,Int.reduceSub,Int.reduceMul,Nat.reduceMul,Qp0,Qp1,Ql0,Qe0]
      refine fun pb hpb => ?_
      have t5 := (tr.mono hl4).mono ((PH.Le.refl h4).new pb ⟨[.int .i64 0, .int .i64 0, .int .i64 0, str []], 4⟩ hpb)
      simp -dsimp -implicitDefEqProofs (disch := first | omega | assumption | (simp only [Option.isSome_some,Qt0]; done) | (simp only [List.length_cons,List.length_nil,List.length_append,Int.toNat_natCast] <;> omega) | fail) only [Nat.reduceLT,Nat.reduceLeDiff,Nat.reduceEqDiff,↓reduceIte,Int.reduceLT,Int.reduceLE,Int.reduceToNat,Int.reduceEq,Int.reduceNe,Nat.reduceAdd,Int.reduceAdd,Int.reduceSub,Int.reduceMul,Nat.reduceMul,Qp0,Qp1,Ql0,Qe0,zA5,zA6,List.set_cons_zero,List.set_cons_succ,List.take_zero,List.drop_succ_cons,List.drop_zero,List.drop_nil,List.nil_append,List.append_nil,List.take_succ_cons,ite_true,PH.new_new,f2,f4,f6]
      refine ⟨by trivial, ps, v1, v2, by simp [f2], by simp [f4], by simp [f6], t5, ⟨hok, r, hsr0, fun x hx r' e => partAt_none hp hx r' (by rw [hdrop, e])⟩⟩
    | some xn =>
      obtain ⟨x, n⟩ := xn
      rw [hp] at hjo
      simp only at hjo
      subst hjo
      obtain ⟨hxok, hn, r', hr'⟩ := zGk hp
      have ha := zCr x
      have hlx : (ptL x).length = 4 := rfl
      simp -dsimp -implicitDefEqProofs (disch := first | omega | assumption | (simp only [Option.isSome_some,Qt0]; done) | (simp only [List.length_cons,List.length_nil,List.length_append,Int.toNat_natCast] <;> omega) | fail) only [Nat.reduceLT,Nat.reduceLeDiff,Nat.reduceEqDiff,↓reduceIte,Int.reduceLT,Int.reduceLE,Int.reduceToNat,Int.reduceEq,Int.reduceNe,Nat.reduceAdd,Int.reduceAdd,Int.reduceSub,Int.reduceMul,Nat.reduceMul,Qp0,Qp1,Ql0,Qe0,hlx]
      refine fun pb hpb => ?_
      have t5 := (tr.mono hl4).raise hpb ⟨ptL x, 4⟩
      have hq1 : PH.Le h2 (h2.new pb ⟨ptL x, 4⟩) := (PH.Le.refl h2).new _ _ (Nat.le_trans (tr.le.trans hl4).top hpb)
      have hm5 : (h2.new pb ⟨ptL x, 4⟩).m pb = some ⟨ptL x, 4⟩ := by rw [PH.new_m, if_pos rfl]
      simp -dsimp -implicitDefEqProofs (disch := first | omega | assumption | (simp only [Option.isSome_some,Qt0]; done) | (simp only [List.length_cons,List.length_nil,List.length_append,Int.toNat_natCast] <;> omega) | fail) only [Nat.reduceLT,Nat.reduceLeDiff,Nat.reduceEqDiff,↓reduceIte,Int.reduceLT,Int.reduceLE,Int.reduceToNat,Int.reduceEq,Int.reduceNe,Nat.reduceAdd,Int.reduceAdd,Int.reduceSub,Int.reduceMul,Nat.reduceMul,Qp0,Qp1,Ql0,Qe0,hlx,zA5,zA6,List.set_cons_zero,List.set_cons_succ,List.take_zero,List.drop_succ_cons,List.drop_zero,List.drop_nil,List.nil_append,List.append_nil,List.take_succ_cons,ite_true,PH.new_new,f2,f4,f6]
      generalize h4.new pb ⟨ptL x, 4⟩ = h5 at *
      generalize h2.new pb ⟨ptL x, 4⟩ = q1 at *
      obtain ⟨hS, hSe⟩ : ∃ hS, q1.new xb ⟨[v1, v2, .int .i64 (flatP ps).length, .bool false, .bool false], 5⟩ = hS := ⟨_, rfl⟩
      have hSl : ∀ {q' : PH}, PH.Le (q1.new xb ⟨[v1, v2, .int .i64 (flatP ps).length, .bool false, .bool false], 5⟩) q' → PH.Le hS q' := fun l => by rw [← hSe]; exact l
      have hSx : hS.m xb = some ⟨[v1, v2, .int .i64 (flatP ps).length, .bool false, .bool false], 5⟩ := by rw [← hSe, PH.new_m, if_pos rfl]
      have hpx : pb ≠ xb := fun e => by rw [e, t5.low] at hm5; cases hm5
      have hSp : rdN w0 hS ⟨pb, 0, none⟩ 4 = some (ptL x) := by
        have : hS.m pb = some ⟨ptL x, 4⟩ := by rw [← hSe, PH.new_m, if_neg hpx]; exact hm5
        unfold rdN
        simp only [this]
        rfl
      have hfs : flatP (ps ++ [x]) = flatP ps ++ sealP x := by rw [zBq]; simp [flatP]
      have hrx : r = sealP x ++ r' := by rw [← hdrop]; exact hr'
      have hnl : (flatP (ps ++ [x])).length = n := by rw [hfs, List.length_append, hn]
      have hsnoc1 : (flatP (ps ++ [x])).length = n := hnl
      have hsnoc2 : (ps ++ [x]).length = ps.length + 1 := by simp
      have hsnoc3 : ptsL (ps ++ [x]) = ptsL ps ++ ptL x := by rw [zG8]; simp [ptsL]
      have hsnoc4 : ints (endsP (ps ++ [x])) = ints (endsP ps) ++ [.int .i64 n] := by rw [endsP_snoc, hnl]; simp [ints]
      have hpos := zB9 x
      have hrl : r.length = (sealP x).length + r'.length := by rw [hrx, List.length_append]
      have hrl' : m - ((sealP x).length) = r'.length := by omega
      have hAll : AllOk (ps ++ [x]) := hok.app fun y hy => by rw [List.mem_singleton] at hy; rw [hy]; exact hxok
      have hsr : s = flatP (ps ++ [x]) ++ r' := by rw [hfs, hsr0, hrx, List.append_assoc]
      have hbig : ps.length ≤ 2000000 := by omega
      refine zB0 (.take 0 (.take 1 (.take 2 (.take 5 (.take 6 (.take 7 (.take 10 (.both 3 (.both 4 (.take 11 (.take 8 (.take 9 (.cut [12, 13, 14, 15, 16])))) 8 (.take 4 (.take 11 (.take 9 (.cut [12, 13, 14, 15, 16]))))) 8 (.take 3 (.take 4 (.take 11 (.take 9 (.cut [12, 13, 14, 15, 16]))))))))))))) hS (by kernel_rfl) (by decide +kernel) (by kernel_rfl) (by kernel_rfl) (by kernel_rfl) (fun c f h hq => by simp only [zAy, zAv, zAw, zAu, zAx] at hq; cases hq.1) (hSl t5.held).sub ?_
      simp -dsimp -implicitDefEqProofs (disch := first | omega | assumption | (simp only [Option.isSome_some,Qt0]; done) | (simp only [List.length_cons,List.length_nil,List.length_append,Int.toNat_natCast] <;> omega) | fail) only [Nat.reduceLT,Nat.reduceLeDiff,Nat.reduceEqDiff,↓reduceIte,Int.reduceLT,Int.reduceLE,Int.reduceToNat,Int.reduceEq,Int.reduceNe,Nat.reduceAdd,Int.reduceAdd,Int.reduceSub,Int.reduceMul,Nat.reduceMul,Qp0,Qp1,Ql0,Qe0,zAo,zAg,zAm,zAj,zAh,zAk,zAl,zAi,zAn,zAf,f2,f4,f6,zAa,zAb,hSx,hSp]
      refine ⟨?_, ?_⟩
      · skip
        refine zBz (v := .agg (ptL x).toArray) el_pt rfl (by omega) (fun bp hbp => ?_)
        have hl6 := (PH.Le.refl h5).new bp ⟨(Value.agg (ptL x).toArray).cells.toList, 4⟩ hbp
        have hm6_p : (h5.new bp ⟨(Value.agg (ptL x).toArray).cells.toList, 4⟩).m bp = some ⟨ptL x, 4⟩ := by rw [PH.new_m, if_pos rfl]; rfl
        have t6 := t5.mono hl6
        generalize h5.new bp ⟨(Value.agg (ptL x).toArray).cells.toList, 4⟩ = h6 at *
        simp -dsimp -implicitDefEqProofs (disch := first | omega | assumption | (simp only [Option.isSome_some,Qt0]; done) | (simp only [List.length_cons,List.length_nil,List.length_append,Int.toNat_natCast] <;> omega) | fail) only [Nat.reduceLT,Nat.reduceLeDiff,Nat.reduceEqDiff,↓reduceIte,Int.reduceLT,Int.reduceLE,Int.reduceToNat,Int.reduceEq,Int.reduceNe,Nat.reduceAdd,Int.reduceAdd,Int.reduceSub,Int.reduceMul,Nat.reduceMul,Qp0,Qp1,Ql0,Qe0,zAo,zAg,zAm,zAj,zAh,zAk,zAl,zAi,zAn,zAf,f2,f4,f6,zAa,zAb,hSx,hSp]
        refine ⟨(hSl t6.held).sub, ?_⟩
        simp -dsimp -implicitDefEqProofs (disch := first | omega | assumption | (simp only [Option.isSome_some,Qt0]; done) | (simp only [List.length_cons,List.length_nil,List.length_append,Int.toNat_natCast] <;> omega) | fail) only [Nat.reduceLT,Nat.reduceLeDiff,Nat.reduceEqDiff,↓reduceIte,Int.reduceLT,Int.reduceLE,Int.reduceToNat,Int.reduceEq,Int.reduceNe,Nat.reduceAdd,Int.reduceAdd,Int.reduceSub,Int.reduceMul,Nat.reduceMul,Qp0,Qp1,Ql0,Qe0,zAo,zAg,zAm,zAj,zAh,zAk,zAl,zAi,zAn,zAf,f2,f4,f6,zAa,zAb,hSx,hSp]
        refine ⟨?_, ?_⟩
        · skip
          refine zBk el_pt t6.o1 (Rs.blk (k := ⟨ptL x, 4⟩) hm6_p rfl) (zCr x) (by unfold maxLen; omega) (by omega) (fun u1 h7 ho hst => ?_)
          have t7 := t6.app1 hst ho
          obtain ⟨D1, e1, rfl, hDe⟩ := ho.len
          simp -dsimp -implicitDefEqProofs (disch := first | omega | assumption | (simp only [Option.isSome_some,Qt0]; done) | (simp only [List.length_cons,List.length_nil,List.length_append,Int.toNat_natCast] <;> omega) | fail) only [Nat.reduceLT,Nat.reduceLeDiff,Nat.reduceEqDiff,↓reduceIte,Int.reduceLT,Int.reduceLE,Int.reduceToNat,Int.reduceEq,Int.reduceNe,Nat.reduceAdd,Int.reduceAdd,Int.reduceSub,Int.reduceMul,Nat.reduceMul,Qp0,Qp1,Ql0,Qe0,zAo,zAg,zAm,zAj,zAh,zAk,zAl,zAi,zAn,zAf,f2,f4,f6,zAa,zAb,hSx,hSp]
          refine ⟨(hSl t7.held).sub, ?_⟩
          simp -dsimp -implicitDefEqProofs (disch := first | omega | assumption | (simp only [Option.isSome_some,Qt0]; done) | (simp only [List.length_cons,List.length_nil,List.length_append,Int.toNat_natCast] <;> omega) | fail) only [Nat.reduceLT,Nat.reduceLeDiff,Nat.reduceEqDiff,↓reduceIte,Int.reduceLT,Int.reduceLE,Int.reduceToNat,Int.reduceEq,Int.reduceNe,Nat.reduceAdd,Int.reduceAdd,Int.reduceSub,Int.reduceMul,Nat.reduceMul,Qp0,Qp1,Ql0,Qe0,zAo,zAg,zAm,zAj,zAh,zAk,zAl,zAi,zAn,zAf,f2,f4,f6,zAa,zAb,hSx,hSp]
          refine zBz (v := .int .i64 n) zC2 rfl (by omega) (fun be hbe => ?_)
          have hl8 := (PH.Le.refl h7).new be ⟨(Value.int .i64 n).cells.toList, 1⟩ hbe
          have hm8_e : (h7.new be ⟨(Value.int .i64 n).cells.toList, 1⟩).m be = some ⟨[.int .i64 n], 1⟩ := by rw [PH.new_m, if_pos rfl]; rfl
          have t8 := t7.mono hl8
          generalize h7.new be ⟨(Value.int .i64 n).cells.toList, 1⟩ = h8 at *
          simp -dsimp -implicitDefEqProofs (disch := first | omega | assumption | (simp only [Option.isSome_some,Qt0]; done) | (simp only [List.length_cons,List.length_nil,List.length_append,Int.toNat_natCast] <;> omega) | fail) only [Nat.reduceLT,Nat.reduceLeDiff,Nat.reduceEqDiff,↓reduceIte,Int.reduceLT,Int.reduceLE,Int.reduceToNat,Int.reduceEq,Int.reduceNe,Nat.reduceAdd,Int.reduceAdd,Int.reduceSub,Int.reduceMul,Nat.reduceMul,Qp0,Qp1,Ql0,Qe0,zAo,zAg,zAm,zAj,zAh,zAk,zAl,zAi,zAn,zAf,f2,f4,f6,zAa,zAb,hSx,hSp]
          refine ⟨(hSl t8.held).sub, ?_⟩
          simp -dsimp -implicitDefEqProofs (disch := first | omega | assumption | (simp only [Option.isSome_some,Qt0]; done) | (simp only [List.length_cons,List.length_nil,List.length_append,Int.toNat_natCast] <;> omega) | fail) only [Nat.reduceLT,Nat.reduceLeDiff,Nat.reduceEqDiff,↓reduceIte,Int.reduceLT,Int.reduceLE,Int.reduceToNat,Int.reduceEq,Int.reduceNe,Nat.reduceAdd,Int.reduceAdd,Int.reduceSub,Int.reduceMul,Nat.reduceMul,Qp0,Qp1,Ql0,Qe0,zAo,zAg,zAm,zAj,zAh,zAk,zAl,zAi,zAn,zAf,f2,f4,f6,zAa,zAb,hSx,hSp]
          refine zBk zC2 t8.o2 (Rs.blk (k := ⟨[.int .i64 n], 1⟩) hm8_e rfl) (zEu [_]) (by unfold maxLen; omega) (by omega) (fun u2 h9 ho hst => ?_)
          have t9 := t8.app2 hst ho
          obtain ⟨D2, e2, rfl, hDe2⟩ := ho.len
          simp -dsimp -implicitDefEqProofs (disch := first | omega | assumption | (simp only [Option.isSome_some,Qt0]; done) | (simp only [List.length_cons,List.length_nil,List.length_append,Int.toNat_natCast] <;> omega) | fail) only [Nat.reduceLT,Nat.reduceLeDiff,Nat.reduceEqDiff,↓reduceIte,Int.reduceLT,Int.reduceLE,Int.reduceToNat,Int.reduceEq,Int.reduceNe,Nat.reduceAdd,Int.reduceAdd,Int.reduceSub,Int.reduceMul,Nat.reduceMul,Qp0,Qp1,Ql0,Qe0,zAo,zAg,zAm,zAj,zAh,zAk,zAl,zAi,zAn,zAf,f2,f4,f6,zAa,zAb,hSx,hSp]
          refine ⟨(hSl t9.held).sub, ?_⟩
          have hcl := t9.cell
          simp -dsimp -implicitDefEqProofs (disch := first | omega | assumption | (simp only [Option.isSome_some,Qt0]; done) | (simp only [List.length_cons,List.length_nil,List.length_append,Int.toNat_natCast] <;> omega) | fail) only [Nat.reduceLT,Nat.reduceLeDiff,Nat.reduceEqDiff,↓reduceIte,Int.reduceLT,Int.reduceLE,Int.reduceToNat,Int.reduceEq,Int.reduceNe,Nat.reduceAdd,Int.reduceAdd,Int.reduceSub,Int.reduceMul,Nat.reduceMul,Qp0,Qp1,Ql0,Qe0,zAo,zAg,zAm,zAj,zAh,zAk,zAl,zAi,zAn,zAf,f2,f4,f6,zAa,zAb,hSx,hSp,zAa,zAb,hcl,List.set_cons_zero,List.set_cons_succ,List.take_zero,List.drop_succ_cons,List.drop_zero,List.drop_nil,List.nil_append,List.append_nil,List.take_succ_cons,ite_true,PH.new_new]
          have t10 := (t9.set [.slice D1 (ps.length + 1) e1, .slice D2 (ps.length + 1) e2, .int .i64 n, .bool false, .bool false]).lower hq1 (Nat.le_refl _)
          refine ⟨m - (sealP x).length, _, by omega, PH.Le.refl _, ps ++ [x], .slice D1 (ps.length + 1) e1, .slice D2 (ps.length + 1) e2, r', hrl', by simp [f2], by simp [f4], by simp [f6], ?_, hAll, hsr⟩
          rw [hsnoc1, hsnoc2, hsnoc3, hsnoc4]
          exact t10
        · skip
          refine zBz (v := .int .i64 n) zC2 rfl (by omega) (fun be hbe => ?_)
          have nb : ∀ y, v1.ownBlock = some y → y ≠ be := fun y e => by have := t6.o1.block e; omega
          have hl7 := (PH.Le.refl h6).new be ⟨(Value.int .i64 n).cells.toList, 1⟩ hbe
          have hm7_e : (h6.new be ⟨(Value.int .i64 n).cells.toList, 1⟩).m be = some ⟨[.int .i64 n], 1⟩ := by rw [PH.new_m, if_pos rfl]; rfl
          have hm7_p := hl7.m _ _ hm6_p
          have t7 := t6.mono hl7
          generalize h6.new be ⟨(Value.int .i64 n).cells.toList, 1⟩ = h7 at *
          simp -dsimp -implicitDefEqProofs (disch := first | omega | assumption | (simp only [Option.isSome_some,Qt0]; done) | (simp only [List.length_cons,List.length_nil,List.length_append,Int.toNat_natCast] <;> omega) | fail) only [Nat.reduceLT,Nat.reduceLeDiff,Nat.reduceEqDiff,↓reduceIte,Int.reduceLT,Int.reduceLE,Int.reduceToNat,Int.reduceEq,Int.reduceNe,Nat.reduceAdd,Int.reduceAdd,Int.reduceSub,Int.reduceMul,Nat.reduceMul,Qp0,Qp1,Ql0,Qe0,zAo,zAg,zAm,zAj,zAh,zAk,zAl,zAi,zAn,zAf,f2,f4,f6,zAa,zAb,hSx,hSp]
          refine ⟨(hSl t7.held).sub, ?_⟩
          simp -dsimp -implicitDefEqProofs (disch := first | omega | assumption | (simp only [Option.isSome_some,Qt0]; done) | (simp only [List.length_cons,List.length_nil,List.length_append,Int.toNat_natCast] <;> omega) | fail) only [Nat.reduceLT,Nat.reduceLeDiff,Nat.reduceEqDiff,↓reduceIte,Int.reduceLT,Int.reduceLE,Int.reduceToNat,Int.reduceEq,Int.reduceNe,Nat.reduceAdd,Int.reduceAdd,Int.reduceSub,Int.reduceMul,Nat.reduceMul,Qp0,Qp1,Ql0,Qe0,zAo,zAg,zAm,zAj,zAh,zAk,zAl,zAi,zAn,zAf,f2,f4,f6,zAa,zAb,hSx,hSp]
          refine zBk el_pt t7.o1 (Rs.blk (k := ⟨ptL x, 4⟩) hm7_p rfl) (zCr x) (by unfold maxLen; omega) (by omega) (fun u1 h8 ho hst => ?_)
          have t8 := t7.app1 hst ho
          have hm8_e := hst.keep _ _ hm7_e fun e => nb _ e rfl
          obtain ⟨D1, e1, rfl, hDe⟩ := ho.len
          simp -dsimp -implicitDefEqProofs (disch := first | omega | assumption | (simp only [Option.isSome_some,Qt0]; done) | (simp only [List.length_cons,List.length_nil,List.length_append,Int.toNat_natCast] <;> omega) | fail) only [Nat.reduceLT,Nat.reduceLeDiff,Nat.reduceEqDiff,↓reduceIte,Int.reduceLT,Int.reduceLE,Int.reduceToNat,Int.reduceEq,Int.reduceNe,Nat.reduceAdd,Int.reduceAdd,Int.reduceSub,Int.reduceMul,Nat.reduceMul,Qp0,Qp1,Ql0,Qe0,zAo,zAg,zAm,zAj,zAh,zAk,zAl,zAi,zAn,zAf,f2,f4,f6,zAa,zAb,hSx,hSp]
          refine ⟨(hSl t8.held).sub, ?_⟩
          simp -dsimp -implicitDefEqProofs (disch := first | omega | assumption | (simp only [Option.isSome_some,Qt0]; done) | (simp only [List.length_cons,List.length_nil,List.length_append,Int.toNat_natCast] <;> omega) | fail) only [Nat.reduceLT,Nat.reduceLeDiff,Nat.reduceEqDiff,↓reduceIte,Int.reduceLT,Int.reduceLE,Int.reduceToNat,Int.reduceEq,Int.reduceNe,Nat.reduceAdd,Int.reduceAdd,Int.reduceSub,Int.reduceMul,Nat.reduceMul,Qp0,Qp1,Ql0,Qe0,zAo,zAg,zAm,zAj,zAh,zAk,zAl,zAi,zAn,zAf,f2,f4,f6,zAa,zAb,hSx,hSp]
          refine zBk zC2 t8.o2 (Rs.blk (k := ⟨[.int .i64 n], 1⟩) hm8_e rfl) (zEu [_]) (by unfold maxLen; omega) (by omega) (fun u2 h9 ho hst => ?_)
          have t9 := t8.app2 hst ho
          obtain ⟨D2, e2, rfl, hDe2⟩ := ho.len
          simp -dsimp -implicitDefEqProofs (disch := first | omega | assumption | (simp only [Option.isSome_some,Qt0]; done) | (simp only [List.length_cons,List.length_nil,List.length_append,Int.toNat_natCast] <;> omega) | fail) only [Nat.reduceLT,Nat.reduceLeDiff,Nat.reduceEqDiff,↓reduceIte,Int.reduceLT,Int.reduceLE,Int.reduceToNat,Int.reduceEq,Int.reduceNe,Nat.reduceAdd,Int.reduceAdd,Int.reduceSub,Int.reduceMul,Nat.reduceMul,Qp0,Qp1,Ql0,Qe0,zAo,zAg,zAm,zAj,zAh,zAk,zAl,zAi,zAn,zAf,f2,f4,f6,zAa,zAb,hSx,hSp]
          refine ⟨(hSl t9.held).sub, ?_⟩
          have hcl := t9.cell
          simp -dsimp -implicitDefEqProofs (disch := first | omega | assumption | (simp only [Option.isSome_some,Qt0]; done) | (simp only [List.length_cons,List.length_nil,List.length_append,Int.toNat_natCast] <;> omega) | fail) only [Nat.reduceLT,Nat.reduceLeDiff,Nat.reduceEqDiff,↓reduceIte,Int.reduceLT,Int.reduceLE,Int.reduceToNat,Int.reduceEq,Int.reduceNe,Nat.reduceAdd,Int.reduceAdd,Int.reduceSub,Int.reduceMul,Nat.reduceMul,Qp0,Qp1,Ql0,Qe0,zAo,zAg,zAm,zAj,zAh,zAk,zAl,zAi,zAn,zAf,f2,f4,f6,zAa,zAb,hSx,hSp,zAa,zAb,hcl,List.set_cons_zero,List.set_cons_succ,List.take_zero,List.drop_succ_cons,List.drop_zero,List.drop_nil,List.nil_append,List.append_nil,List.take_succ_cons,ite_true,PH.new_new]
          have t10 := (t9.set [.slice D1 (ps.length + 1) e1, .slice D2 (ps.length + 1) e2, .int .i64 n, .bool false, .bool false]).lower hq1 (Nat.le_refl _)
          refine ⟨m - (sealP x).length, _, by omega, PH.Le.refl _, ps ++ [x], .slice D1 (ps.length + 1) e1, .slice D2 (ps.length + 1) e2, r', hrl', by simp [f2], by simp [f4], by simp [f6], ?_, hAll, hsr⟩
          rw [hsnoc1, hsnoc2, hsnoc3, hsnoc4]
          exact t10
      · skip
        refine zBz (v := .int .i64 n) zC2 rfl (by omega) (fun be hbe => ?_)
        have nb : ∀ y, v1.ownBlock = some y → y ≠ be := fun y e => by have := t5.o1.block e; omega
        have hl6 := (PH.Le.refl h5).new be ⟨(Value.int .i64 n).cells.toList, 1⟩ hbe
        have hm6_e : (h5.new be ⟨(Value.int .i64 n).cells.toList, 1⟩).m be = some ⟨[.int .i64 n], 1⟩ := by rw [PH.new_m, if_pos rfl]; rfl
        have t6 := t5.mono hl6
        generalize h5.new be ⟨(Value.int .i64 n).cells.toList, 1⟩ = h6 at *
        simp -dsimp -implicitDefEqProofs (disch := first | omega | assumption | (simp only [Option.isSome_some,Qt0]; done) | (simp only [List.length_cons,List.length_nil,List.length_append,Int.toNat_natCast] <;> omega) | fail) only [Nat.reduceLT,Nat.reduceLeDiff,Nat.reduceEqDiff,↓reduceIte,Int.reduceLT,Int.reduceLE,Int.reduceToNat,Int.reduceEq,Int.reduceNe,Nat.reduceAdd,Int.reduceAdd,Int.reduceSub,Int.reduceMul,Nat.reduceMul,Qp0,Qp1,Ql0,Qe0,zAo,zAg,zAm,zAj,zAh,zAk,zAl,zAi,zAn,zAf,f2,f4,f6,zAa,zAb,hSx,hSp]
        refine ⟨(hSl t6.held).sub, ?_⟩
        simp -dsimp -implicitDefEqProofs (disch := first | omega | assumption | (simp only [Option.isSome_some,Qt0]; done) | (simp only [List.length_cons,List.length_nil,List.length_append,Int.toNat_natCast] <;> omega) | fail) only [Nat.reduceLT,Nat.reduceLeDiff,Nat.reduceEqDiff,↓reduceIte,Int.reduceLT,Int.reduceLE,Int.reduceToNat,Int.reduceEq,Int.reduceNe,Nat.reduceAdd,Int.reduceAdd,Int.reduceSub,Int.reduceMul,Nat.reduceMul,Qp0,Qp1,Ql0,Qe0,zAo,zAg,zAm,zAj,zAh,zAk,zAl,zAi,zAn,zAf,f2,f4,f6,zAa,zAb,hSx,hSp]
        refine zBz (v := .agg (ptL x).toArray) el_pt rfl (by omega) (fun bp hbp => ?_)
        have hl7 := (PH.Le.refl h6).new bp ⟨(Value.agg (ptL x).toArray).cells.toList, 4⟩ hbp
        have hm7_p : (h6.new bp ⟨(Value.agg (ptL x).toArray).cells.toList, 4⟩).m bp = some ⟨ptL x, 4⟩ := by rw [PH.new_m, if_pos rfl]; rfl
        have hm7_e := hl7.m _ _ hm6_e
        have t7 := t6.mono hl7
        generalize h6.new bp ⟨(Value.agg (ptL x).toArray).cells.toList, 4⟩ = h7 at *
        simp -dsimp -implicitDefEqProofs (disch := first | omega | assumption | (simp only [Option.isSome_some,Qt0]; done) | (simp only [List.length_cons,List.length_nil,List.length_append,Int.toNat_natCast] <;> omega) | fail) only [Nat.reduceLT,Nat.reduceLeDiff,Nat.reduceEqDiff,↓reduceIte,Int.reduceLT,Int.reduceLE,Int.reduceToNat,Int.reduceEq,Int.reduceNe,Nat.reduceAdd,Int.reduceAdd,Int.reduceSub,Int.reduceMul,Nat.reduceMul,Qp0,Qp1,Ql0,Qe0,zAo,zAg,zAm,zAj,zAh,zAk,zAl,zAi,zAn,zAf,f2,f4,f6,zAa,zAb,hSx,hSp]
        refine ⟨(hSl t7.held).sub, ?_⟩
        simp -dsimp -implicitDefEqProofs (disch := first | omega | assumption | (simp only [Option.isSome_some,Qt0]; done) | (simp only [List.length_cons,List.length_nil,List.length_append,Int.toNat_natCast] <;> omega) | fail) only [Nat.reduceLT,Nat.reduceLeDiff,Nat.reduceEqDiff,↓reduceIte,Int.reduceLT,Int.reduceLE,Int.reduceToNat,Int.reduceEq,Int.reduceNe,Nat.reduceAdd,Int.reduceAdd,Int.reduceSub,Int.reduceMul,Nat.reduceMul,Qp0,Qp1,Ql0,Qe0,zAo,zAg,zAm,zAj,zAh,zAk,zAl,zAi,zAn,zAf,f2,f4,f6,zAa,zAb,hSx,hSp]
        refine zBk el_pt t7.o1 (Rs.blk (k := ⟨ptL x, 4⟩) hm7_p rfl) (zCr x) (by unfold maxLen; omega) (by omega) (fun u1 h8 ho hst => ?_)
        have t8 := t7.app1 hst ho
        have hm8_e := hst.keep _ _ hm7_e fun e => nb _ e rfl
        obtain ⟨D1, e1, rfl, hDe⟩ := ho.len
        simp -dsimp -implicitDefEqProofs (disch := first | omega | assumption | (simp only [Option.isSome_some,Qt0]; done) | (simp only [List.length_cons,List.length_nil,List.length_append,Int.toNat_natCast] <;> omega) | fail) only [Nat.reduceLT,Nat.reduceLeDiff,Nat.reduceEqDiff,↓reduceIte,Int.reduceLT,Int.reduceLE,Int.reduceToNat,Int.reduceEq,Int.reduceNe,Nat.reduceAdd,Int.reduceAdd,Int.reduceSub,Int.reduceMul,Nat.reduceMul,Qp0,Qp1,Ql0,Qe0,zAo,zAg,zAm,zAj,zAh,zAk,zAl,zAi,zAn,zAf,f2,f4,f6,zAa,zAb,hSx,hSp]
        refine ⟨(hSl t8.held).sub, ?_⟩
        simp -dsimp -implicitDefEqProofs (disch := first | omega | assumption | (simp only [Option.isSome_some,Qt0]; done) | (simp only [List.length_cons,List.length_nil,List.length_append,Int.toNat_natCast] <;> omega) | fail) only [Nat.reduceLT,Nat.reduceLeDiff,Nat.reduceEqDiff,↓reduceIte,Int.reduceLT,Int.reduceLE,Int.reduceToNat,Int.reduceEq,Int.reduceNe,Nat.reduceAdd,Int.reduceAdd,Int.reduceSub,Int.reduceMul,Nat.reduceMul,Qp0,Qp1,Ql0,Qe0,zAo,zAg,zAm,zAj,zAh,zAk,zAl,zAi,zAn,zAf,f2,f4,f6,zAa,zAb,hSx,hSp]
        refine zBk zC2 t8.o2 (Rs.blk (k := ⟨[.int .i64 n], 1⟩) hm8_e rfl) (zEu [_]) (by unfold maxLen; omega) (by omega) (fun u2 h9 ho hst => ?_)
        have t9 := t8.app2 hst ho
        obtain ⟨D2, e2, rfl, hDe2⟩ := ho.len
        simp -dsimp -implicitDefEqProofs (disch := first | omega | assumption | (simp only [Option.isSome_some,Qt0]; done) | (simp only [List.length_cons,List.length_nil,List.length_append,Int.toNat_natCast] <;> omega) | fail) only [Nat.reduceLT,Nat.reduceLeDiff,Nat.reduceEqDiff,↓reduceIte,Int.reduceLT,Int.reduceLE,Int.reduceToNat,Int.reduceEq,Int.reduceNe,Nat.reduceAdd,Int.reduceAdd,Int.reduceSub,Int.reduceMul,Nat.reduceMul,Qp0,Qp1,Ql0,Qe0,zAo,zAg,zAm,zAj,zAh,zAk,zAl,zAi,zAn,zAf,f2,f4,f6,zAa,zAb,hSx,hSp]
        refine ⟨(hSl t9.held).sub, ?_⟩
        have hcl := t9.cell
        simp -dsimp -implicitDefEqProofs (disch := first | omega | assumption | (simp only [Option.isSome_some,Qt0]; done) | (simp only [List.length_cons,List.length_nil,List.length_append,Int.toNat_natCast] <;> omega) | fail) only [Nat.reduceLT,Nat.reduceLeDiff,Nat.reduceEqDiff,↓reduceIte,Int.reduceLT,Int.reduceLE,Int.reduceToNat,Int.reduceEq,Int.reduceNe,Nat.reduceAdd,Int.reduceAdd,Int.reduceSub,Int.reduceMul,Nat.reduceMul,Qp0,Qp1,Ql0,Qe0,zAo,zAg,zAm,zAj,zAh,zAk,zAl,zAi,zAn,zAf,f2,f4,f6,zAa,zAb,hSx,hSp,zAa,zAb,hcl,List.set_cons_zero,List.set_cons_succ,List.take_zero,List.drop_succ_cons,List.drop_zero,List.drop_nil,List.nil_append,List.append_nil,List.take_succ_cons,ite_true,PH.new_new]
        have t10 := (t9.set [.slice D1 (ps.length + 1) e1, .slice D2 (ps.length + 1) e2, .int .i64 n, .bool false, .bool false]).lower hq1 (Nat.le_refl _)
        refine ⟨m - (sealP x).length, _, by omega, PH.Le.refl _, ps ++ [x], .slice D1 (ps.length + 1) e1, .slice D2 (ps.length + 1) e2, r', hrl', by simp [f2], by simp [f4], by simp [f6], ?_, hAll, hsr⟩
        rw [hsnoc1, hsnoc2, hsnoc3, hsnoc4]
        exact t10
  · subst he
    obtain ⟨hok, r, hsr0, hno⟩ := id hsc
    have hcl := tr.cell
    have hpsl := zEh ps
    have hsl : s.length = (flatP ps).length + r.length := by rw [hsr0, List.length_append]
    obtain ⟨A, c, rfl, hnc⟩ := tr.o1.len
    obtain ⟨B, c2, rfl, hnc2⟩ := tr.o2.len
    obtain ⟨e, he⟩ : ∃ e, (flatP ps).length = e := ⟨_, rfl⟩
    rw [he] at tr hcl hpsl hsl
    -- the end
    have fin : ∀ (cor wh : Bool) (hE : PH), (cor = true ↔ Corrupt s e) → wh = (!cor && ordB ps) → TR h2.top h2 hE xb [.slice A ps.length c, .slice B ps.length c2, .int .i64 e, .bool cor, .bool wh] 4 (.slice A ps.length c) ps.length (ptsL ps) 1 (.slice B ps.length c2) ps.length (ints (endsP ps)) →
        ∃ L h1, (Value.tuple #[.agg #[.slice A ps.length c, .slice B ps.length c2, .int .i64 e, .bool cor, .bool wh], .nilIface]) = .tuple #[.agg L.toArray, .nilIface] ∧ PH.Le h0 h1 ∧ DS h1 (hE.new rb ⟨[.slice A ps.length c, .slice B ps.length c2, .int .i64 e, .bool cor, .bool wh], 5⟩) b d ∧ LK w0 h.top h1 s L := by
      intro cor wh hE hcor hwh t
      have htop2 : h.top ≤ h2.top := by have := h2.lt _ _ hr2; omega
      obtain ⟨h1g, g1, g2, g3, g4, g5⟩ := hd2.grow t.le
      have hrbg := g2.m _ _ hm1
      have hrlt := h2.lt _ _ hr2
      have hkeep : ∀ x k, h2.top ≤ x → hE.m x = some k → (h1g.del rb).m x = some k := fun x k q1 q2 => by
        rw [PH.del_m, if_neg (by omega)]; exact g5 x k q1 q2
      refine ⟨_, h1g.del rb, rfl, (hl00.trans g2).del rb hrb0, g1.setOut hrbg _, ps, A, c, B, c2, cor, (fun a e => by subst e; have := (t.w1 a.block rfl).2.2; omega), (fun a e => by subst e; have := (t.w2 a.block rfl).2.2; omega), hsc, by rw [he]; exact hcor, by rw [he, ← hwh]; rfl, Rv.own (t.o1.at fun x k q1 q2 => hkeep x k (t.w1 x q1).2.2 q2), Rv.own (t.o2.at fun x k q1 q2 => hkeep x k (t.w2 x q1).2.2 q2), hnc, hnc2⟩
    have hz5 : ∀ cor wh : Bool, allOne [.slice A ps.length c, .slice B ps.length c2, .int .i64 e, .bool cor, .bool wh] := fun cor wh => zC7 _ rfl
    by_cases hr0 : r = []
    · have e1 : decide ((e : Int) < (s.length : Int)) = false := decide_eq_false (by rw [hsl, hr0]; simp)
      have hcor : false = true ↔ Corrupt s e := by
        refine ⟨fun h => absurd h (by decide), fun ⟨a, x, n, h1, h2, h3⟩ => ?_⟩
        have := (List.getElem?_eq_some_iff.1 (zEs h2)).1
        rw [hsl, hr0] at this
        simp at this
        omega
      simp -dsimp -implicitDefEqProofs (disch := first | omega | assumption | (simp only [Option.isSome_some,Qt0]; done) | (simp only [List.length_cons,List.length_nil,List.length_append,Int.toNat_natCast] <;> omega) | fail) only [Nat.reduceLT,Nat.reduceLeDiff,Nat.reduceEqDiff,↓reduceIte,Int.reduceLT,Int.reduceLE,Int.reduceToNat,Int.reduceEq,Int.reduceNe,Nat.reduceAdd,Int.reduceAdd,Int.reduceSub,Int.reduceMul,Nat.reduceMul,Qp0,Qp1,Ql0,Qe0,f2,f4,f6,zAa,zAb,hcl,he,e1]
      refine (zG5 A c ps w0 h' (Rv.own tr.o1) (by omega)).mono ?_
      rintro v hq ⟨rfl, hlq⟩
      have tq := (tr.mono hlq).set [.slice A ps.length c, .slice B ps.length c2, .int .i64 e, .bool false, .bool (ordB ps)]
      have hclq := hlq.m _ _ hcl
      have hrbq := hlq.m _ _ (tr.le.m _ _ hr2)
      have hnx : ¬ rb = xb := fun e => by have := tr.low; rw [← e, hr2] at this; cases this
      have hcl2 := tq.cell
      have ho5 := hz5 false (ordB ps)
      have hr5 : rdN w0 (hq.new xb ⟨[.slice A ps.length c, .slice B ps.length c2, .int .i64 e, .bool false, .bool (ordB ps)], 5⟩) ⟨xb, 0, none⟩ 5 = some [.slice A ps.length c, .slice B ps.length c2, .int .i64 e, .bool false, .bool (ordB ps)] := by unfold rdN; simp only [hcl2]; rfl
      have hr6 : rdN w0 ((hq.new xb ⟨[.slice A ps.length c, .slice B ps.length c2, .int .i64 e, .bool false, .bool (ordB ps)], 5⟩).new rb ⟨[.slice A ps.length c, .slice B ps.length c2, .int .i64 e, .bool false, .bool (ordB ps)], 5⟩) ⟨rb, 0, none⟩ 5 = some [.slice A ps.length c, .slice B ps.length c2, .int .i64 e, .bool false, .bool (ordB ps)] := by unfold rdN; rw [PH.new_m, if_pos rfl]; rfl
      simp -dsimp -implicitDefEqProofs (disch := first | omega | assumption | (simp only [Option.isSome_some,Qt0]; done) | (simp only [List.length_cons,List.length_nil,List.length_append,Int.toNat_natCast] <;> omega) | fail) only [Nat.reduceLT,Nat.reduceLeDiff,Nat.reduceEqDiff,↓reduceIte,Int.reduceLT,Int.reduceLE,Int.reduceToNat,Int.reduceEq,Int.reduceNe,Nat.reduceAdd,Int.reduceAdd,Int.reduceSub,Int.reduceMul,Nat.reduceMul,Qp0,Qp1,Ql0,Qe0,f2,f4,f6,zAa,zAb,hclq,hrbq,hnx,hr5,hr6,List.set_cons_zero,List.set_cons_succ,List.take_zero,List.drop_succ_cons,List.drop_zero,List.drop_nil,List.nil_append,List.append_nil,List.take_succ_cons,ite_true,PH.new_new]
      exact ⟨_, PH.Le.refl _, fin false (ordB ps) _ hcor rfl tq⟩
    have hrp : 0 < r.length := List.length_pos_iff.2 hr0
    have e1 : decide ((e : Int) < (s.length : Int)) = true := decide_eq_true (by omega)
    obtain ⟨v0, hv0⟩ := first_ex s (e + 1)
    have hc1 : ((e + 1 : Nat) : Int) = (e : Int) + 1 := by omega
    have hfi := find_any s ((e : Int) + 1) v0 (by omega) (by rw [← hc1]; exact hv0) w0 h'
    simp -dsimp -implicitDefEqProofs (disch := first | omega | assumption | (simp only [Option.isSome_some,Qt0]; done) | (simp only [List.length_cons,List.length_nil,List.length_append,Int.toNat_natCast] <;> omega) | fail) only [Nat.reduceLT,Nat.reduceLeDiff,Nat.reduceEqDiff,↓reduceIte,Int.reduceLT,Int.reduceLE,Int.reduceToNat,Int.reduceEq,Int.reduceNe,Nat.reduceAdd,Int.reduceAdd,Int.reduceSub,Int.reduceMul,Nat.reduceMul,Qp0,Qp1,Ql0,Qe0,f2,f4,f6,zAa,zAb,hcl,he,e1]
    refine hfi.mono ?_
    rintro v hz ⟨rfl, hz'⟩
    obtain rfl := hz'.symm
    simp -dsimp -implicitDefEqProofs (disch := first | omega | assumption | (simp only [Option.isSome_some,Qt0]; done) | (simp only [List.length_cons,List.length_nil,List.length_append,Int.toNat_natCast] <;> omega) | fail) only [Nat.reduceLT,Nat.reduceLeDiff,Nat.reduceEqDiff,↓reduceIte,Int.reduceLT,Int.reduceLE,Int.reduceToNat,Int.reduceEq,Int.reduceNe,Nat.reduceAdd,Int.reduceAdd,Int.reduceSub,Int.reduceMul,Nat.reduceMul,Qp0,Qp1,Ql0,Qe0,f2,f4,f6]
    refine zCo (Q := fun ex f h' => ex = .exit 2 ∧ ∃ cor, f 2 = some (.pointer (some ⟨rb, 0, none⟩)) ∧ f 4 = some (str s) ∧ f 6 = some (.pointer (some ⟨xb, 0, none⟩)) ∧ TR h2.top h2 h' xb [.slice A ps.length c, .slice B ps.length c2, .int .i64 e, .bool cor, .bool false] 4 (.slice A ps.length c) ps.length (ptsL ps) 1 (.slice B ps.length c2) ps.length (ints (endsP ps)) ∧ (cor = true ↔ Corrupt s e)) ?_ (fun ex f h' ⟨hex, cor, f2, f4, f6, tr, hcor⟩ => ?_)
    · refine zBs (fun m f h' => ∃ (v : Int) (a : Nat), m = s.length + 1 - a ∧ a ≤ s.length + 1 ∧ f 2 = some (.pointer (some ⟨rb, 0, none⟩)) ∧ f 4 = some (str s) ∧ f 6 = some (.pointer (some ⟨xb, 0, none⟩)) ∧ f 10 = some (.int .i64 v) ∧ TR h2.top h2 h' xb [.slice A ps.length c, .slice B ps.length c2, .int .i64 e, .bool false, .bool false] 4 (.slice A ps.length c) ps.length (ptsL ps) 1 (.slice B ps.length c2) ps.length (ints (endsP ps)) ∧ First s (a : Int) v ∧ e < a ∧ (∀ j x n, e < j → j < a → partAt s j = some (x, n) → ¬ e < x.p)) (by kernel_rfl) (s.length + 1 - (e + 1)) ⟨v0, e + 1, rfl, by omega, ?_, ?_, ?_, ?_, tr, hv0, by omega, fun j x n q1 q2 => absurd q1 (by omega)⟩ ?_
      · simp -dsimp -implicitDefEqProofs (disch := first | omega | assumption | (simp only [Option.isSome_some,Qt0]; done) | (simp only [List.length_cons,List.length_nil,List.length_append,Int.toNat_natCast] <;> omega) | fail) only [Nat.reduceLT,Nat.reduceLeDiff,Nat.reduceEqDiff,↓reduceIte,Int.reduceLT,Int.reduceLE,Int.reduceToNat,Int.reduceEq,Int.reduceNe,Nat.reduceAdd,Int.reduceAdd,Int.reduceSub,Int.reduceMul,Nat.reduceMul,Qp0,Qp1,Ql0,Qe0,f2]
      · simp -dsimp -implicitDefEqProofs (disch := first | omega | assumption | (simp only [Option.isSome_some,Qt0]; done) | (simp only [List.length_cons,List.length_nil,List.length_append,Int.toNat_natCast] <;> omega) | fail) only [Nat.reduceLT,Nat.reduceLeDiff,Nat.reduceEqDiff,↓reduceIte,Int.reduceLT,Int.reduceLE,Int.reduceToNat,Int.reduceEq,Int.reduceNe,Nat.reduceAdd,Int.reduceAdd,Int.reduceSub,Int.reduceMul,Nat.reduceMul,Qp0,Qp1,Ql0,Qe0,f4]
      · simp -dsimp -implicitDefEqProofs (disch := first | omega | assumption | (simp only [Option.isSome_some,Qt0]; done) | (simp only [List.length_cons,List.length_nil,List.length_append,Int.toNat_natCast] <;> omega) | fail) only [Nat.reduceLT,Nat.reduceLeDiff,Nat.reduceEqDiff,↓reduceIte,Int.reduceLT,Int.reduceLE,Int.reduceToNat,Int.reduceEq,Int.reduceNe,Nat.reduceAdd,Int.reduceAdd,Int.reduceSub,Int.reduceMul,Nat.reduceMul,Qp0,Qp1,Ql0,Qe0,f6]
      · simp -dsimp -implicitDefEqProofs (disch := first | omega | assumption | (simp only [Option.isSome_some,Qt0]; done) | (simp only [List.length_cons,List.length_nil,List.length_append,Int.toNat_natCast] <;> omega) | fail) only [Nat.reduceLT,Nat.reduceLeDiff,Nat.reduceEqDiff,↓reduceIte,Int.reduceLT,Int.reduceLE,Int.reduceToNat,Int.reduceEq,Int.reduceNe,Nat.reduceAdd,Int.reduceAdd,Int.reduceSub,Int.reduceMul,Nat.reduceMul,Qp0,Qp1,Ql0,Qe0]
        try rfl
      clear tr hcl hz5 f2 f4 f6
      rintro m f h' ⟨v, a, hm, hal, f2, f4, f6, f10, tr, hF, hea, hall⟩
      rcases hF with ⟨k, rfl, hak, hk1, hmin⟩ | ⟨rfl, hnone⟩
      rotate_left
      · have e2 : decide (0 ≤ (-1 : Int)) = false := decide_eq_false (by omega)
        simp -dsimp -implicitDefEqProofs (disch := first | omega | assumption | (simp only [Option.isSome_some,Qt0]; done) | (simp only [List.length_cons,List.length_nil,List.length_append,Int.toNat_natCast] <;> omega) | fail) only [Nat.reduceLT,Nat.reduceLeDiff,Nat.reduceEqDiff,↓reduceIte,Int.reduceLT,Int.reduceLE,Int.reduceToNat,Int.reduceEq,Int.reduceNe,Nat.reduceAdd,Int.reduceAdd,Int.reduceSub,Int.reduceMul,Nat.reduceMul,Qp0,Qp1,Ql0,Qe0,f2,f4,f6,f10,ge_iff_le,e2]
        refine ⟨by trivial, false, by simp [f2], by simp [f4], by simp [f6], tr, fun q => absurd q (by decide), fun ⟨a', x, n, q1, q2, q3⟩ => ?_⟩
        rcases Nat.lt_or_ge a' a with q | q
        · exact absurd q3 (hall a' x n q1 q q2)
        · exact absurd (zEs q2) (hnone a' (by omega))
      have hkl := (List.getElem?_eq_some_iff.1 hk1).1
      have e2 : decide (0 ≤ (k : Int)) = true := decide_eq_true (by omega)
      simp -dsimp -implicitDefEqProofs (disch := first | omega | assumption | (simp only [Option.isSome_some,Qt0]; done) | (simp only [List.length_cons,List.length_nil,List.length_append,Int.toNat_natCast] <;> omega) | fail) only [Nat.reduceLT,Nat.reduceLeDiff,Nat.reduceEqDiff,↓reduceIte,Int.reduceLT,Int.reduceLE,Int.reduceToNat,Int.reduceEq,Int.reduceNe,Nat.reduceAdd,Int.reduceAdd,Int.reduceSub,Int.reduceMul,Nat.reduceMul,Qp0,Qp1,Ql0,Qe0,f2,f4,f6,f10,ge_iff_le,e2]
      refine (jopen_any s k (by omega) w0 h').mono ?_
      rintro v h4 ⟨hjo, hl4⟩
      unfold JO at hjo
      obtain ⟨v1, hv1⟩ := first_ex s (k + 1)
      have hc2 : ((k + 1 : Nat) : Int) = (k : Int) + 1 := by omega
      cases hp : partAt s k with
      | none =>
        rw [hp] at hjo
        simp only at hjo
        subst hjo
        have ha := one4 0 0 0 []
        simp -dsimp -implicitDefEqProofs (disch := first | omega | assumption | (simp only [Option.isSome_some,Qt0]; done) | (simp only [List.length_cons,List.length_nil,List.length_append,Int.toNat_natCast] <;> omega) | fail) only [Nat.reduceLT,Nat.reduceLeDiff,Nat.reduceEqDiff,↓reduceIte,Int.reduceLT,Int.reduceLE,Int.reduceToNat,Int.reduceEq,Int.reduceNe,Nat.reduceAdd,Int.reduceAdd,Int.reduceSub,Int.reduceMul,Nat.reduceMul,Qp0,Qp1,Ql0,Qe0]
        refine fun pb hpb => ?_
        have t5 := (tr.mono hl4).mono ((PH.Le.refl h4).new pb ⟨[.int .i64 0, .int .i64 0, .int .i64 0, str []], 4⟩ hpb)
        have hfi := find_any s ((k : Int) + 1) v1 (by omega) (by rw [← hc2]; exact hv1) w0 (h4.new pb ⟨[.int .i64 0, .int .i64 0, .int .i64 0, str []], 4⟩)
        simp -dsimp -implicitDefEqProofs (disch := first | omega | assumption | (simp only [Option.isSome_some,Qt0]; done) | (simp only [List.length_cons,List.length_nil,List.length_append,Int.toNat_natCast] <;> omega) | fail) only [Nat.reduceLT,Nat.reduceLeDiff,Nat.reduceEqDiff,↓reduceIte,Int.reduceLT,Int.reduceLE,Int.reduceToNat,Int.reduceEq,Int.reduceNe,Nat.reduceAdd,Int.reduceAdd,Int.reduceSub,Int.reduceMul,Nat.reduceMul,Qp0,Qp1,Ql0,Qe0,zA5,zA6,List.set_cons_zero,List.set_cons_succ,List.take_zero,List.drop_succ_cons,List.drop_zero,List.drop_nil,List.nil_append,List.append_nil,List.take_succ_cons,ite_true,PH.new_new,f2,f4,f6,f10]
        refine hfi.mono ?_
        rintro v hz ⟨rfl, hz'⟩
        obtain rfl := hz'.symm
        simp -dsimp -implicitDefEqProofs (disch := first | omega | assumption | (simp only [Option.isSome_some,Qt0]; done) | (simp only [List.length_cons,List.length_nil,List.length_append,Int.toNat_natCast] <;> omega) | fail) only [Nat.reduceLT,Nat.reduceLeDiff,Nat.reduceEqDiff,↓reduceIte,Int.reduceLT,Int.reduceLE,Int.reduceToNat,Int.reduceEq,Int.reduceNe,Nat.reduceAdd,Int.reduceAdd,Int.reduceSub,Int.reduceMul,Nat.reduceMul,Qp0,Qp1,Ql0,Qe0,f2,f4,f6,f10]
        refine ⟨s.length + 1 - (k + 1), _, by omega, PH.Le.refl _, v1, k + 1, rfl, by omega, by simp [f2], by simp [f4], by simp [f6], by trivial, t5, hv1, by omega, fun j x n q1 q2 q3 => ?_⟩
        rcases Nat.lt_or_ge j a with q | q
        · exact hall j x n q1 q q3
        · rcases Nat.lt_or_ge j k with q' | q'
          · exact absurd (zEs q3) (hmin j q' (by omega))
          · obtain rfl : j = k := by omega
            rw [hp] at q3; cases q3
      | some xn =>
        obtain ⟨x, n⟩ := xn
        rw [hp] at hjo
        simp only at hjo
        subst hjo
        have ha := zCr x
        have hlx : (ptL x).length = 4 := rfl
        unfold ptL at ha hlx ⊢
        simp -dsimp -implicitDefEqProofs (disch := first | omega | assumption | (simp only [Option.isSome_some,Qt0]; done) | (simp only [List.length_cons,List.length_nil,List.length_append,Int.toNat_natCast] <;> omega) | fail) only [Nat.reduceLT,Nat.reduceLeDiff,Nat.reduceEqDiff,↓reduceIte,Int.reduceLT,Int.reduceLE,Int.reduceToNat,Int.reduceEq,Int.reduceNe,Nat.reduceAdd,Int.reduceAdd,Int.reduceSub,Int.reduceMul,Nat.reduceMul,Qp0,Qp1,Ql0,Qe0,hlx]
        refine fun pb hpb => ?_
        have t5 := (tr.mono hl4).mono ((PH.Le.refl h4).new pb ⟨[.int .i64 x.k, .int .i64 x.g, .int .i64 x.p, str x.t], 4⟩ hpb)
        have hm5 : (h4.new pb ⟨[.int .i64 x.k, .int .i64 x.g, .int .i64 x.p, str x.t], 4⟩).m pb = some ⟨[.int .i64 x.k, .int .i64 x.g, .int .i64 x.p, str x.t], 4⟩ := by rw [PH.new_m, if_pos rfl]
        have hfi := find_any s ((k : Int) + 1) v1 (by omega) (by rw [← hc2]; exact hv1) w0
        simp -dsimp -implicitDefEqProofs (disch := first | omega | assumption | (simp only [Option.isSome_some,Qt0]; done) | (simp only [List.length_cons,List.length_nil,List.length_append,Int.toNat_natCast] <;> omega) | fail) only [Nat.reduceLT,Nat.reduceLeDiff,Nat.reduceEqDiff,↓reduceIte,Int.reduceLT,Int.reduceLE,Int.reduceToNat,Int.reduceEq,Int.reduceNe,Nat.reduceAdd,Int.reduceAdd,Int.reduceSub,Int.reduceMul,Nat.reduceMul,Qp0,Qp1,Ql0,Qe0,hlx,zA5,zA6,List.set_cons_zero,List.set_cons_succ,List.take_zero,List.drop_succ_cons,List.drop_zero,List.drop_nil,List.nil_append,List.append_nil,List.take_succ_cons,ite_true,PH.new_new,f2,f4,f6,f10]
        generalize h4.new pb ⟨[.int .i64 x.k, .int .i64 x.g, .int .i64 x.p, str x.t], 4⟩ = h5 at *
        have hcl := t5.cell
        by_cases hpx : e < x.p
        · have d1 : decide ((e : Int) < (x.p : Int)) = true := decide_eq_true (by omega)
          simp -dsimp -implicitDefEqProofs (disch := first | omega | assumption | (simp only [Option.isSome_some,Qt0]; done) | (simp only [List.length_cons,List.length_nil,List.length_append,Int.toNat_natCast] <;> omega) | fail) only [Nat.reduceLT,Nat.reduceLeDiff,Nat.reduceEqDiff,↓reduceIte,Int.reduceLT,Int.reduceLE,Int.reduceToNat,Int.reduceEq,Int.reduceNe,Nat.reduceAdd,Int.reduceAdd,Int.reduceSub,Int.reduceMul,Nat.reduceMul,Qp0,Qp1,Ql0,Qe0,f2,f4,f6,f10,zAa,zAb,hcl,hm5,gt_iff_lt,d1,List.set_cons_zero,List.set_cons_succ,List.take_zero,List.drop_succ_cons,List.drop_zero,List.drop_nil,List.nil_append,List.append_nil,List.take_succ_cons,ite_true,PH.new_new]
          exact ⟨by trivial, true, by simp [f2], by simp [f4], by simp [f6], t5.set _, fun _ => ⟨k, x, n, by omega, hp, hpx⟩, fun _ => rfl⟩
        · have d1 : decide ((e : Int) < (x.p : Int)) = false := decide_eq_false (by omega)
          simp -dsimp -implicitDefEqProofs (disch := first | omega | assumption | (simp only [Option.isSome_some,Qt0]; done) | (simp only [List.length_cons,List.length_nil,List.length_append,Int.toNat_natCast] <;> omega) | fail) only [Nat.reduceLT,Nat.reduceLeDiff,Nat.reduceEqDiff,↓reduceIte,Int.reduceLT,Int.reduceLE,Int.reduceToNat,Int.reduceEq,Int.reduceNe,Nat.reduceAdd,Int.reduceAdd,Int.reduceSub,Int.reduceMul,Nat.reduceMul,Qp0,Qp1,Ql0,Qe0,f2,f4,f6,f10,zAa,zAb,hcl,hm5,gt_iff_lt,d1,List.set_cons_zero,List.set_cons_succ,List.take_zero,List.drop_succ_cons,List.drop_zero,List.drop_nil,List.nil_append,List.append_nil,List.take_succ_cons,ite_true,PH.new_new]
          refine (hfi h5).mono ?_
          rintro v hz ⟨rfl, hz'⟩
          obtain rfl := hz'.symm
          simp -dsimp -implicitDefEqProofs (disch := first | omega | assumption | (simp only [Option.isSome_some,Qt0]; done) | (simp only [List.length_cons,List.length_nil,List.length_append,Int.toNat_natCast] <;> omega) | fail) only [Nat.reduceLT,Nat.reduceLeDiff,Nat.reduceEqDiff,↓reduceIte,Int.reduceLT,Int.reduceLE,Int.reduceToNat,Int.reduceEq,Int.reduceNe,Nat.reduceAdd,Int.reduceAdd,Int.reduceSub,Int.reduceMul,Nat.reduceMul,Qp0,Qp1,Ql0,Qe0,f2,f4,f6,f10]
          refine ⟨s.length + 1 - (k + 1), _, by omega, PH.Le.refl _, v1, k + 1, rfl, by omega, by simp [f2], by simp [f4], by simp [f6], by trivial, t5, hv1, by omega, fun j y n' q1 q2 q3 => ?_⟩
          rcases Nat.lt_or_ge j a with q | q
          · exact hall j y n' q1 q q3
          · rcases Nat.lt_or_ge j k with q' | q'
            · exact absurd (zEs q3) (hmin j q' (by omega))
            · obtain rfl : j = k := by omega
              rw [hp] at q3; cases q3; exact hpx
    · subst hex
      have hcl := tr.cell
      cases cor
      · simp -dsimp -implicitDefEqProofs (disch := first | omega | assumption | (simp only [Option.isSome_some,Qt0]; done) | (simp only [List.length_cons,List.length_nil,List.length_append,Int.toNat_natCast] <;> omega) | fail) only [Nat.reduceLT,Nat.reduceLeDiff,Nat.reduceEqDiff,↓reduceIte,Int.reduceLT,Int.reduceLE,Int.reduceToNat,Int.reduceEq,Int.reduceNe,Nat.reduceAdd,Int.reduceAdd,Int.reduceSub,Int.reduceMul,Nat.reduceMul,Qp0,Qp1,Ql0,Qe0,f2,f4,f6,zAa,zAb,hcl,he]
        refine (zG5 A c ps w0 h' (Rv.own tr.o1) (by omega)).mono ?_
        rintro v hq ⟨rfl, hlq⟩
        have tq := (tr.mono hlq).set [.slice A ps.length c, .slice B ps.length c2, .int .i64 e, .bool false, .bool (ordB ps)]
        have hclq := hlq.m _ _ hcl
        have hrbq := hlq.m _ _ (tr.le.m _ _ hr2)
        have hnx : ¬ rb = xb := fun e => by have := tr.low; rw [← e, hr2] at this; cases this
        have hcl2 := tq.cell
        have ho5 := hz5 false (ordB ps)
        have hr5 : rdN w0 (hq.new xb ⟨[.slice A ps.length c, .slice B ps.length c2, .int .i64 e, .bool false, .bool (ordB ps)], 5⟩) ⟨xb, 0, none⟩ 5 = some [.slice A ps.length c, .slice B ps.length c2, .int .i64 e, .bool false, .bool (ordB ps)] := by unfold rdN; simp only [hcl2]; rfl
        have hr6 : rdN w0 ((hq.new xb ⟨[.slice A ps.length c, .slice B ps.length c2, .int .i64 e, .bool false, .bool (ordB ps)], 5⟩).new rb ⟨[.slice A ps.length c, .slice B ps.length c2, .int .i64 e, .bool false, .bool (ordB ps)], 5⟩) ⟨rb, 0, none⟩ 5 = some [.slice A ps.length c, .slice B ps.length c2, .int .i64 e, .bool false, .bool (ordB ps)] := by unfold rdN; rw [PH.new_m, if_pos rfl]; rfl
        simp -dsimp -implicitDefEqProofs (disch := first | omega | assumption | (simp only [Option.isSome_some,Qt0]; done) | (simp only [List.length_cons,List.length_nil,List.length_append,Int.toNat_natCast] <;> omega) | fail) only [Nat.reduceLT,Nat.reduceLeDiff,Nat.reduceEqDiff,↓reduceIte,Int.reduceLT,Int.reduceLE,Int.reduceToNat,Int.reduceEq,Int.reduceNe,Nat.reduceAdd,Int.reduceAdd,Int.reduceSub,Int.reduceMul,Nat.reduceMul,Qp0,Qp1,Ql0,Qe0,f2,f4,f6,zAa,zAb,hclq,hrbq,hnx,hr5,hr6,List.set_cons_zero,List.set_cons_succ,List.take_zero,List.drop_succ_cons,List.drop_zero,List.drop_nil,List.nil_append,List.append_nil,List.take_succ_cons,ite_true,PH.new_new]
        exact ⟨_, PH.Le.refl _, fin false (ordB ps) _ hcor rfl tq⟩
      · have hrbz := tr.le.m _ _ hr2
        have ho5 := hz5 true false
        have hr5 : rdN w0 h' ⟨xb, 0, none⟩ 5 = some [.slice A ps.length c, .slice B ps.length c2, .int .i64 e, .bool true, .bool false] := by unfold rdN; simp only [hcl]; rfl
        have hr6 : rdN w0 (h'.new rb ⟨[.slice A ps.length c, .slice B ps.length c2, .int .i64 e, .bool true, .bool false], 5⟩) ⟨rb, 0, none⟩ 5 = some [.slice A ps.length c, .slice B ps.length c2, .int .i64 e, .bool true, .bool false] := by unfold rdN; rw [PH.new_m, if_pos rfl]; rfl
        simp -dsimp -implicitDefEqProofs (disch := first | omega | assumption | (simp only [Option.isSome_some,Qt0]; done) | (simp only [List.length_cons,List.length_nil,List.length_append,Int.toNat_natCast] <;> omega) | fail) only [Nat.reduceLT,Nat.reduceLeDiff,Nat.reduceEqDiff,↓reduceIte,Int.reduceLT,Int.reduceLE,Int.reduceToNat,Int.reduceEq,Int.reduceNe,Nat.reduceAdd,Int.reduceAdd,Int.reduceSub,Int.reduceMul,Nat.reduceMul,Qp0,Qp1,Ql0,Qe0,f2,f4,f6,zAa,zAb,hcl,hrbz,hr5,hr6,PH.new_same hcl,List.set_cons_zero,List.set_cons_succ,List.take_zero,List.drop_succ_cons,List.drop_zero,List.drop_nil,List.nil_append,List.append_nil,List.take_succ_cons,ite_true,PH.new_new]
        exact ⟨_, PH.Le.refl _, fin true false h' hcor rfl tr⟩
end Go.Proofs.Ytblikpbaeippaaa


namespace Go.Proofs.Ytblikpbaeippaaa
set_option linter.unusedVariables false
set_option linter.unusedSimpArgs false
open Go.RowKit Px Wr
theorem info_strJ : (Try.prog.info? 9).map (fun i => (i.zero, i.size, i.bytes)) = some (some (.string ⟨#[]⟩), 1, 16) := by kernel_rfl
theorem zC0 : El Try.prog 34 9 (.string ⟨#[]⟩) 1 16 := ⟨Try.underlying34, info_parts info_strJ, rfl, by decide⟩
theorem strs_one (l : List (List UInt8)) : allOne (l.map str) := fun v hv => by
  obtain ⟨x, _, rfl⟩ := List.mem_map.1 hv; rfl
set_option maxRecDepth 20000 in
set_option maxHeartbeats 4000000 in
theorem zEp (A B : Option Addr) (c n2 c2 e : Nat) (cor wh : Bool) (ps : List Pt) (w0 : World) (h : PH) (hr : Rv w0 h A (ptsL ps)) (hN : ps.length ≤ 2000000) : PCalls Try.prog w0 34 [.agg (lkL A ps.length c B n2 c2 e cor wh).toArray] h fun v h' => OwnS h h' 1 v (recsP ps).length ((recsP ps).map str) := by
  refine zCb fun q0 hlq hlow0 hut => ?_
  refine zAp Try.func34 (by kernel_rfl) rfl _ Try.ntmps34 (by kernel_rfl) (by kernel_rfl) _ Try.results34 ?_
  have hr0 := hr.more hlq
  obtain ⟨n, hn⟩ : ∃ n, n = ps.length := ⟨_, rfl⟩
  rw [← hn]
  unfold lkL
  simp -dsimp -implicitDefEqProofs (disch := first | omega | assumption | (simp only [Option.isSome_some,Qt0]; done) | (simp only [List.length_cons,List.length_nil,List.length_append,Int.toNat_natCast] <;> omega) | fail) only [Nat.reduceLT,Nat.reduceLeDiff,Nat.reduceEqDiff,↓reduceIte,Int.reduceLT,Int.reduceLE,Int.reduceToNat,Int.reduceEq,Int.reduceNe,Nat.reduceAdd,Int.reduceAdd,Int.reduceSub,Int.reduceMul,Nat.reduceMul,Qp0,Qp1,Ql0,Qe0]
  refine fun xb hxb => ?_
  have hl1 := (PH.Le.refl q0).new xb ⟨[.slice A n c, .slice B n2 c2, .int .i64 e, .bool cor, .bool wh], 5⟩ hxb
  have hm1 : (q0.new xb ⟨[.slice A n c, .slice B n2 c2, .int .i64 e, .bool cor, .bool wh], 5⟩).m xb = some ⟨[.slice A n c, .slice B n2 c2, .int .i64 e, .bool cor, .bool wh], 5⟩ := by rw [PH.new_m, if_pos rfl]
  have hut1 : w0.heap.size ≤ (q0.new xb ⟨[.slice A n c, .slice B n2 c2, .int .i64 e, .bool cor, .bool wh], 5⟩).top := Nat.le_trans hut hl1.top
  simp -dsimp -implicitDefEqProofs (disch := first | omega | assumption | (simp only [Option.isSome_some,Qt0]; done) | (simp only [List.length_cons,List.length_nil,List.length_append,Int.toNat_natCast] <;> omega) | fail) only [Nat.reduceLT,Nat.reduceLeDiff,Nat.reduceEqDiff,↓reduceIte,Int.reduceLT,Int.reduceLE,Int.reduceToNat,Int.reduceEq,Int.reduceNe,Nat.reduceAdd,Int.reduceAdd,Int.reduceSub,Int.reduceMul,Nat.reduceMul,Qp0,Qp1,Ql0,Qe0]
  generalize q0.new xb ⟨[.slice A n c, .slice B n2 c2, .int .i64 e, .bool cor, .bool wh], 5⟩ = q at *
  have hrq := hr0.more hl1
  simp -dsimp -implicitDefEqProofs (disch := first | omega | assumption | (simp only [Option.isSome_some,Qt0]; done) | (simp only [List.length_cons,List.length_nil,List.length_append,Int.toNat_natCast] <;> omega) | fail) only [Nat.reduceLT,Nat.reduceLeDiff,Nat.reduceEqDiff,↓reduceIte,Int.reduceLT,Int.reduceLE,Int.reduceToNat,Int.reduceEq,Int.reduceNe,Nat.reduceAdd,Int.reduceAdd,Int.reduceSub,Int.reduceMul,Nat.reduceMul,Qp0,Qp1,Ql0,Qe0,zAa,zAb,hm1]
  refine zB3 (fun m f h' => ∃ (i : Nat) (v : Value), m + i = n ∧ f 3 = some v ∧ f 7 = some (.slice A n c) ∧ f 8 = some (.int .i64 n) ∧ f 9 = some (.int .i64 i) ∧ OwnS q h' 1 v (recsP (ps.take i)).length ((recsP (ps.take i)).map str)) (by kernel_rfl) n ⟨0, .slice none 0 0, by omega, ?_, ?_, ?_, ?_, OwnS.nil q 1⟩ ?_
  · simp -dsimp -implicitDefEqProofs (disch := first | omega | assumption | (simp only [Option.isSome_some,Qt0]; done) | (simp only [List.length_cons,List.length_nil,List.length_append,Int.toNat_natCast] <;> omega) | fail) only [Nat.reduceLT,Nat.reduceLeDiff,Nat.reduceEqDiff,↓reduceIte,Int.reduceLT,Int.reduceLE,Int.reduceToNat,Int.reduceEq,Int.reduceNe,Nat.reduceAdd,Int.reduceAdd,Int.reduceSub,Int.reduceMul,Nat.reduceMul,Qp0,Qp1,Ql0,Qe0]
  · simp -dsimp -implicitDefEqProofs (disch := first | omega | assumption | (simp only [Option.isSome_some,Qt0]; done) | (simp only [List.length_cons,List.length_nil,List.length_append,Int.toNat_natCast] <;> omega) | fail) only [Nat.reduceLT,Nat.reduceLeDiff,Nat.reduceEqDiff,↓reduceIte,Int.reduceLT,Int.reduceLE,Int.reduceToNat,Int.reduceEq,Int.reduceNe,Nat.reduceAdd,Int.reduceAdd,Int.reduceSub,Int.reduceMul,Nat.reduceMul,Qp0,Qp1,Ql0,Qe0]
  · simp -dsimp -implicitDefEqProofs (disch := first | omega | assumption | (simp only [Option.isSome_some,Qt0]; done) | (simp only [List.length_cons,List.length_nil,List.length_append,Int.toNat_natCast] <;> omega) | fail) only [Nat.reduceLT,Nat.reduceLeDiff,Nat.reduceEqDiff,↓reduceIte,Int.reduceLT,Int.reduceLE,Int.reduceToNat,Int.reduceEq,Int.reduceNe,Nat.reduceAdd,Int.reduceAdd,Int.reduceSub,Int.reduceMul,Nat.reduceMul,Qp0,Qp1,Ql0,Qe0]
  · simp -dsimp -implicitDefEqProofs (disch := first | omega | assumption | (simp only [Option.isSome_some,Qt0]; done) | (simp only [List.length_cons,List.length_nil,List.length_append,Int.toNat_natCast] <;> omega) | fail) only [Nat.reduceLT,Nat.reduceLeDiff,Nat.reduceEqDiff,↓reduceIte,Int.reduceLT,Int.reduceLE,Int.reduceToNat,Int.reduceEq,Int.reduceNe,Nat.reduceAdd,Int.reduceAdd,Int.reduceSub,Int.reduceMul,Nat.reduceMul,Qp0,Qp1,Ql0,Qe0]
    try rfl
  rintro m f h' ⟨i, v, hmi, f3, f7, f8, f9, how⟩ hlow'
  have hl' := how.le
  by_cases hi : i < n
  rotate_left
  · have e2 : decide ((i : Int) < (n : Int)) = false := decide_eq_false (by omega)
    rw [List.take_of_length_le (by omega)] at how
    simp -dsimp -implicitDefEqProofs (disch := first | omega | assumption | (simp only [Option.isSome_some,Qt0]; done) | (simp only [List.length_cons,List.length_nil,List.length_append,Int.toNat_natCast] <;> omega) | fail) only [Nat.reduceLT,Nat.reduceLeDiff,Nat.reduceEqDiff,↓reduceIte,Int.reduceLT,Int.reduceLE,Int.reduceToNat,Int.reduceEq,Int.reduceNe,Nat.reduceAdd,Int.reduceAdd,Int.reduceSub,Int.reduceMul,Nat.reduceMul,Qp0,Qp1,Ql0,Qe0,f3,f7,f8,f9,e2]
    exact ⟨_, PH.Le.refl _, ⟨(hlq.trans hl1).trans how.le, how.own, fun x hx => Nat.le_trans (hlq.trans hl1).top (how.new x hx)⟩⟩
  have e2 : decide ((i : Int) < (n : Int)) = true := decide_eq_true (by omega)
  obtain ⟨x, hx⟩ : ∃ x, ps[i]? = some x := ⟨_, List.getElem?_eq_getElem (by omega)⟩
  have hr' := hrq.more hl'
  obtain ⟨pb, po, rfl⟩ := hr'.addr (by rw [zC6]; omega)
  have hrd := Rv.part hr' hlow' hx
  have ha : allOne (ptL x) := zCr x
  unfold ptL at hrd ha
  have hT : (i : Int).toNat = i := Int.toNat_natCast i
  simp -dsimp -implicitDefEqProofs (disch := first | omega | assumption | (simp only [Option.isSome_some,Qt0]; done) | (simp only [List.length_cons,List.length_nil,List.length_append,Int.toNat_natCast] <;> omega) | fail) only [Nat.reduceLT,Nat.reduceLeDiff,Nat.reduceEqDiff,↓reduceIte,Int.reduceLT,Int.reduceLE,Int.reduceToNat,Int.reduceEq,Int.reduceNe,Nat.reduceAdd,Int.reduceAdd,Int.reduceSub,Int.reduceMul,Nat.reduceMul,Qp0,Qp1,Ql0,Qe0,f3,f7,f8,f9,e2,hrd]
  refine fun tb htb => ?_
  have hl2 := (PH.Le.refl h').new tb ⟨[.int .i64 x.k, .int .i64 x.g, .int .i64 x.p, str x.t], 4⟩ htb
  have hm2 : (h'.new tb ⟨[.int .i64 x.k, .int .i64 x.g, .int .i64 x.p, str x.t], 4⟩).m tb = some ⟨[.int .i64 x.k, .int .i64 x.g, .int .i64 x.p, str x.t], 4⟩ := by rw [PH.new_m, if_pos rfl]
  have how2 := how.more hl2
  simp -dsimp -implicitDefEqProofs (disch := first | omega | assumption | (simp only [Option.isSome_some,Qt0]; done) | (simp only [List.length_cons,List.length_nil,List.length_append,Int.toNat_natCast] <;> omega) | fail) only [Nat.reduceLT,Nat.reduceLeDiff,Nat.reduceEqDiff,↓reduceIte,Int.reduceLT,Int.reduceLE,Int.reduceToNat,Int.reduceEq,Int.reduceNe,Nat.reduceAdd,Int.reduceAdd,Int.reduceSub,Int.reduceMul,Nat.reduceMul,Qp0,Qp1,Ql0,Qe0,f3,f7,f8,f9,List.set_cons_zero,List.set_cons_succ,List.take_zero,List.drop_succ_cons,List.drop_zero,List.drop_nil,List.nil_append,List.append_nil,List.take_succ_cons,ite_true,PH.new_new]
  generalize h'.new tb ⟨[.int .i64 x.k, .int .i64 x.g, .int .i64 x.p, str x.t], 4⟩ = h2 at *
  have htk : ps.take (i + 1) = ps.take i ++ [x] := by rw [List.take_add_one, hx]; rfl
  have hrl : (recsP (ps.take i)).length ≤ 2000000 := by
    unfold recsP
    rw [List.length_map]
    refine Nat.le_trans (List.length_filter_le _ _) ?_
    rw [List.length_take]; omega
  by_cases hk : x.k = 2
  · have d1 : decide ((x.k : Int) = 2) = true := decide_eq_true (by omega)
    have hre : recsP (ps.take (i + 1)) = recsP (ps.take i) ++ [x.t] := by rw [htk, zBp]; simp [recsP, hk]
    simp -dsimp -implicitDefEqProofs (disch := first | omega | assumption | (simp only [Option.isSome_some,Qt0]; done) | (simp only [List.length_cons,List.length_nil,List.length_append,Int.toNat_natCast] <;> omega) | fail) only [Nat.reduceLT,Nat.reduceLeDiff,Nat.reduceEqDiff,↓reduceIte,Int.reduceLT,Int.reduceLE,Int.reduceToNat,Int.reduceEq,Int.reduceNe,Nat.reduceAdd,Int.reduceAdd,Int.reduceSub,Int.reduceMul,Nat.reduceMul,Qp0,Qp1,Ql0,Qe0,f3,f7,f8,f9,zAa,zAb,hm2,d1]
    refine zBz (v := str x.t) zC0 rfl (by omega) (fun gb hgb => ?_)
    have how3 := how2.more ((PH.Le.refl h2).new gb ⟨(str x.t).cells.toList, 1⟩ hgb)
    have hm3 : (h2.new gb ⟨(str x.t).cells.toList, 1⟩).m gb = some ⟨[str x.t], 1⟩ := by rw [PH.new_m, if_pos rfl]; rfl
    generalize h2.new gb ⟨(str x.t).cells.toList, 1⟩ = h3 at *
    simp -dsimp -implicitDefEqProofs (disch := first | omega | assumption | (simp only [Option.isSome_some,Qt0]; done) | (simp only [List.length_cons,List.length_nil,List.length_append,Int.toNat_natCast] <;> omega) | fail) only [Nat.reduceLT,Nat.reduceLeDiff,Nat.reduceEqDiff,↓reduceIte,Int.reduceLT,Int.reduceLE,Int.reduceToNat,Int.reduceEq,Int.reduceNe,Nat.reduceAdd,Int.reduceAdd,Int.reduceSub,Int.reduceMul,Nat.reduceMul,Qp0,Qp1,Ql0,Qe0]
    refine zBk zC0 how3.own (Rs.blk (k := ⟨[str x.t], 1⟩) hm3 rfl) (strs_one [x.t]) (by unfold maxLen; omega) (by omega) (fun v4 h4 ho hst => ?_)
    have how4 := how3.stays hst ho
    have how5 : OwnS q h4 1 v4 (recsP (ps.take (i + 1))).length ((recsP (ps.take (i + 1))).map str) := by
      rw [hre, List.length_append, List.map_append]; exact how4
    simp -dsimp -implicitDefEqProofs (disch := first | omega | assumption | (simp only [Option.isSome_some,Qt0]; done) | (simp only [List.length_cons,List.length_nil,List.length_append,Int.toNat_natCast] <;> omega) | fail) only [Nat.reduceLT,Nat.reduceLeDiff,Nat.reduceEqDiff,↓reduceIte,Int.reduceLT,Int.reduceLE,Int.reduceToNat,Int.reduceEq,Int.reduceNe,Nat.reduceAdd,Int.reduceAdd,Int.reduceSub,Int.reduceMul,Nat.reduceMul,Qp0,Qp1,Ql0,Qe0,f3,f7,f8,f9]
    exact ⟨m - 1, _, by omega, PH.Le.refl _, i + 1, v4, by omega, by trivial, by trivial, by trivial, by simp, how5⟩
  · have d1 : decide ((x.k : Int) = 2) = false := decide_eq_false (by omega)
    have hre : recsP (ps.take (i + 1)) = recsP (ps.take i) := by rw [htk, zBp]; simp [recsP, hk]
    simp -dsimp -implicitDefEqProofs (disch := first | omega | assumption | (simp only [Option.isSome_some,Qt0]; done) | (simp only [List.length_cons,List.length_nil,List.length_append,Int.toNat_natCast] <;> omega) | fail) only [Nat.reduceLT,Nat.reduceLeDiff,Nat.reduceEqDiff,↓reduceIte,Int.reduceLT,Int.reduceLE,Int.reduceToNat,Int.reduceEq,Int.reduceNe,Nat.reduceAdd,Int.reduceAdd,Int.reduceSub,Int.reduceMul,Nat.reduceMul,Qp0,Qp1,Ql0,Qe0,f3,f7,f8,f9,zAa,zAb,hm2,d1]
    exact ⟨m - 1, _, by omega, PH.Le.refl _, i + 1, v, by omega, by trivial, by trivial, by trivial, by simp, by rw [hre]; exact how2⟩
theorem DS.setIn {h0 h : PH} {b x : Nat} {d : Dk} {k : Bk} (hd : DS h0 h b d) (hx : h0.m x = some k) (k' : Bk) : DS (h0.new x k') (h.new x k') b d := by
  obtain ⟨A, c, h1, h2, h5⟩ := hd.cells
  have hbx : b ≠ x := fun e => by subst e; rw [hd.low] at hx; cases hx
  have hn : ∀ y, h0.m y = none → (h0.new x k').m y = none := fun y q => by
    rw [PH.new_m, if_neg fun r => by subst r; rw [q] at hx; cases hx]; exact q
  refine ⟨by simp only [PH.new_top]; have := hd.top; omega, hn _ hd.low, fun y j q => ?_, A, c, by rw [PH.new_m, if_neg hbx]; exact h1, h2.same fun a e => ?_, fun a e => ⟨hn _ (h5 a e).1, (h5 a e).2⟩⟩
  · rw [PH.new_m] at q ⊢
    by_cases r : y = x
    · rw [if_pos r] at q ⊢; exact q
    · rw [if_neg r] at q ⊢; exact hd.same y j q
  · rw [PH.new_m, if_neg fun r => by rw [← r, (h5 a e).1] at hx; cases hx]
def LastMark (ps : List Pt) (i : Nat) : Prop := (∃ x, ps[i]? = some x ∧ x.k = 4) ∧ ∀ j y, i < j → ps[j]? = some y → y.k ≠ 4
set_option maxRecDepth 20000 in
set_option maxHeartbeats 4000000 in
theorem jback_any {h0 : PH} {b : Nat} {d : Dk} (xb : Nat) (A B : Option Addr) (c c2 e : Nat) (cor wh : Bool) (ps : List Pt) (w0 : World) (h : PH) (hx : h0.m xb = some ⟨lkL A ps.length c B ps.length c2 e cor wh, 5⟩) (hd : DS h0 h b d) (g : Good d) (hA : Rv w0 h0 A (ptsL ps)) (hB : Rv w0 h0 B (ints (endsP ps))) (hxB : ∀ a, B = some a → a.block ≠ xb) (hc : ps.length ≤ c) (hN : ps.length ≤ 2000000) :
    PCalls Try.prog w0 33 [.pointer (some ⟨xb, 0, none⟩), .pointer (some ⟨b, 0, none⟩)] h fun v h' => ((∀ x ∈ ps, x.k ≠ 4) ∧ v = .nilIface ∧ DS h0 h' b d) ∨ ∃ i, LastMark ps i ∧ DS (h0.new xb ⟨lkL A (i + 1) c B ps.length c2 e cor wh, 5⟩) h' b (d.cut (flatP (ps.take (i + 1))).length).1 ∧ EC h' v ((d.cut (flatP (ps.take (i + 1))).length).2.map (·.1)) := by
  refine zCb fun q hlq hlow hut => ?_
  refine zAp Try.func33 (by kernel_rfl) rfl _ Try.ntmps33 (by kernel_rfl) (by kernel_rfl) _ Try.results33 ?_
  have hd := hd.mono hlq
  have hxq := hd.same _ _ hx
  have hAq := hA.more hd.le2
  have hBq := hB.more hd.le2
  obtain ⟨n, hn⟩ : ∃ n, n = ps.length := ⟨_, rfl⟩
  rw [← hn] at hx hxq hc hN ⊢
  unfold lkL at hx hxq
  simp -dsimp -implicitDefEqProofs (disch := first | omega | assumption | (simp only [Option.isSome_some,Qt0]; done) | (simp only [List.length_cons,List.length_nil,List.length_append,Int.toNat_natCast] <;> omega) | fail) only [Nat.reduceLT,Nat.reduceLeDiff,Nat.reduceEqDiff,↓reduceIte,Int.reduceLT,Int.reduceLE,Int.reduceToNat,Int.reduceEq,Int.reduceNe,Nat.reduceAdd,Int.reduceAdd,Int.reduceSub,Int.reduceMul,Nat.reduceMul,Qp0,Qp1,Ql0,Qe0,zAa,zAb,hxq]
  refine zBs (fun m f h' => f 0 = some (.pointer (some ⟨xb, 0, none⟩)) ∧ f 1 = some (.pointer (some ⟨b, 0, none⟩)) ∧ f 5 = some (.int .i64 ((m : Int) - 1)) ∧ m ≤ n ∧ h' = q ∧ ∀ j y, m ≤ j → ps[j]? = some y → y.k ≠ 4) (by kernel_rfl) n ⟨?_, ?_, ?_, Nat.le_refl _, rfl, fun j y q1 q2 => ?_⟩ ?_
  · simp -dsimp -implicitDefEqProofs (disch := first | omega | assumption | (simp only [Option.isSome_some,Qt0]; done) | (simp only [List.length_cons,List.length_nil,List.length_append,Int.toNat_natCast] <;> omega) | fail) only [Nat.reduceLT,Nat.reduceLeDiff,Nat.reduceEqDiff,↓reduceIte,Int.reduceLT,Int.reduceLE,Int.reduceToNat,Int.reduceEq,Int.reduceNe,Nat.reduceAdd,Int.reduceAdd,Int.reduceSub,Int.reduceMul,Nat.reduceMul,Qp0,Qp1,Ql0,Qe0]
  · simp -dsimp -implicitDefEqProofs (disch := first | omega | assumption | (simp only [Option.isSome_some,Qt0]; done) | (simp only [List.length_cons,List.length_nil,List.length_append,Int.toNat_natCast] <;> omega) | fail) only [Nat.reduceLT,Nat.reduceLeDiff,Nat.reduceEqDiff,↓reduceIte,Int.reduceLT,Int.reduceLE,Int.reduceToNat,Int.reduceEq,Int.reduceNe,Nat.reduceAdd,Int.reduceAdd,Int.reduceSub,Int.reduceMul,Nat.reduceMul,Qp0,Qp1,Ql0,Qe0]
  · simp -dsimp -implicitDefEqProofs (disch := first | omega | assumption | (simp only [Option.isSome_some,Qt0]; done) | (simp only [List.length_cons,List.length_nil,List.length_append,Int.toNat_natCast] <;> omega) | fail) only [Nat.reduceLT,Nat.reduceLeDiff,Nat.reduceEqDiff,↓reduceIte,Int.reduceLT,Int.reduceLE,Int.reduceToNat,Int.reduceEq,Int.reduceNe,Nat.reduceAdd,Int.reduceAdd,Int.reduceSub,Int.reduceMul,Nat.reduceMul,Qp0,Qp1,Ql0,Qe0]
    try rfl
  · have := (List.getElem?_eq_some_iff.1 q2).1; omega
  rintro m f h' ⟨f0, f1, f5, hmn, rfl, hno⟩
  cases m with
  | zero =>
    have e1 : decide (0 ≤ ((0 : Nat) : Int) - 1) = false := decide_eq_false (by omega)
    have e1' : decide (((0 : Nat) : Int) - 1 ≥ 0) = false := decide_eq_false (by omega)
    simp -dsimp -implicitDefEqProofs (disch := first | omega | assumption | (simp only [Option.isSome_some,Qt0]; done) | (simp only [List.length_cons,List.length_nil,List.length_append,Int.toNat_natCast] <;> omega) | fail) only [Nat.reduceLT,Nat.reduceLeDiff,Nat.reduceEqDiff,↓reduceIte,Int.reduceLT,Int.reduceLE,Int.reduceToNat,Int.reduceEq,Int.reduceNe,Nat.reduceAdd,Int.reduceAdd,Int.reduceSub,Int.reduceMul,Nat.reduceMul,Qp0,Qp1,Ql0,Qe0,f0,f1,f5,e1,e1',ge_iff_le]
    refine ⟨_, PH.Le.refl _, .inl ⟨fun x hx => ?_, by first | trivial | rfl, hd⟩⟩
    obtain ⟨j, hj, rfl⟩ := List.getElem_of_mem hx
    exact hno j _ (by omega) (List.getElem?_eq_getElem hj)
  | succ i =>
    have hi : ((i + 1 : Nat) : Int) - 1 = (i : Int) := by omega
    rw [hi] at f5
    have e1 : decide (0 ≤ (i : Int)) = true := decide_eq_true (by omega)
    obtain ⟨x, hxi⟩ : ∃ x, ps[i]? = some x := ⟨_, List.getElem?_eq_getElem (by omega)⟩
    obtain ⟨pb, po, hAe⟩ := hAq.addr (by rw [zC6]; omega)
    subst hAe
    have gg := Rv.partM hAq hlow hxi 0 _ rfl
    have hT : (i : Int).toNat = i := Int.toNat_natCast i
    rw [Nat.add_zero] at gg
    by_cases hk : x.k = 4
    rotate_left
    · have d1 : decide ((x.k : Int) = 4) = false := decide_eq_false (by omega)
      simp -dsimp -implicitDefEqProofs (disch := first | omega | assumption | (simp only [Option.isSome_some,Qt0]; done) | (simp only [List.length_cons,List.length_nil,List.length_append,Int.toNat_natCast] <;> omega) | fail) only [Nat.reduceLT,Nat.reduceLeDiff,Nat.reduceEqDiff,↓reduceIte,Int.reduceLT,Int.reduceLE,Int.reduceToNat,Int.reduceEq,Int.reduceNe,Nat.reduceAdd,Int.reduceAdd,Int.reduceSub,Int.reduceMul,Nat.reduceMul,Qp0,Qp1,Ql0,Qe0,f0,f1,f5,e1,ge_iff_le,zAa,zAb,hxq,gg,d1]
      refine ⟨i, _, by omega, PH.Le.refl _, by simp [f0], by simp [f1], by first | trivial | simp, by omega, rfl, fun j y q1 q2 => ?_⟩
      rcases Nat.eq_or_lt_of_le q1 with q | q
      · subst q; rw [hxi] at q2; cases q2; exact hk
      · exact hno j y (by omega) q2
    · have d1 : decide ((x.k : Int) = 4) = true := decide_eq_true (by omega)
      have hset := hd.setIn hx ⟨[.slice (some ⟨pb, po, none⟩) (i + 1) c, .slice B n c2, .int .i64 e, .bool cor, .bool wh], 5⟩
      obtain ⟨eb, eo, hBe⟩ := hBq.addr (by rw [zHx, zF2]; omega)
      subst hBe
      have ge := hBq.get hlow (j := i) (u := .int .i64 ((flatP (ps.take (i + 1))).length : Int)) (by unfold ints; rw [List.getElem?_map, endsP_get (by omega)]; rfl)
      have hne : ¬ eb = xb := hxB _ rfl
      have hsz4 : szOf Try.prog 73 = some 4 := by kernel_rfl
      have hT1 : ((i : Int) + 1).toNat = i + 1 := by omega
      have hcast : (((i + 1 : Nat)) : Int) = (i : Int) + 1 := by omega
      have hmlast : LastMark ps i := ⟨⟨x, hxi, hk⟩, fun j y q1 q2 => hno j y (by omega) q2⟩
      simp -dsimp -implicitDefEqProofs (disch := first | omega | assumption | (simp only [Option.isSome_some,Qt0]; done) | (simp only [List.length_cons,List.length_nil,List.length_append,Int.toNat_natCast] <;> omega) | fail) only [Nat.reduceLT,Nat.reduceLeDiff,Nat.reduceEqDiff,↓reduceIte,Int.reduceLT,Int.reduceLE,Int.reduceToNat,Int.reduceEq,Int.reduceNe,Nat.reduceAdd,Int.reduceAdd,Int.reduceSub,Int.reduceMul,Nat.reduceMul,Qp0,Qp1,Ql0,Qe0,f0,f1,f5,e1,ge_iff_le,zAa,zAb,hxq,gg,d1,hne,ge,y_toL Try.underlying61 hsz4,hT1,hcast,List.set_cons_zero,List.set_cons_succ,List.take_zero,List.drop_succ_cons,List.drop_zero,List.drop_nil,List.nil_append,List.append_nil,List.take_succ_cons,ite_true,PH.new_new]
      refine (zDr _ b d w0 _ hset g ((flatP (ps.take (i + 1))).length : Nat)).mono ?_
      rintro v h3 ⟨hd3, he3⟩
      simp -dsimp -implicitDefEqProofs (disch := first | omega | assumption | (simp only [Option.isSome_some,Qt0]; done) | (simp only [List.length_cons,List.length_nil,List.length_append,Int.toNat_natCast] <;> omega) | fail) only [Nat.reduceLT,Nat.reduceLeDiff,Nat.reduceEqDiff,↓reduceIte,Int.reduceLT,Int.reduceLE,Int.reduceToNat,Int.reduceEq,Int.reduceNe,Nat.reduceAdd,Int.reduceAdd,Int.reduceSub,Int.reduceMul,Nat.reduceMul,Qp0,Qp1,Ql0,Qe0]
      refine ⟨_, PH.Le.refl _, .inr ⟨i, hmlast, ?_, he3.ec⟩⟩
      unfold lkL
      exact hd3
set_option maxRecDepth 20000 in
theorem jgen_any {h0 : PH} {j a b : Nat} {da db : Dk} {g : Nat} {o : Bool} (w0 : World) (h : PH) (hj : JS h0 h j a b da db g o) : PCalls Try.prog w0 19 [.pointer (some ⟨j, 0, none⟩)] h fun v h' => v = .int .i64 g ∧ h' = h := by
  refine zAp Try.func19 (by kernel_rfl) rfl _ Try.ntmps19 (by kernel_rfl) (by kernel_rfl) _ Try.results19 ?_
  have hm := hj.cell
  unfold jL at hm
  simp -dsimp -implicitDefEqProofs (disch := first | omega | assumption | (simp only [Option.isSome_some,Qt0]; done) | (simp only [List.length_cons,List.length_nil,List.length_append,Int.toNat_natCast] <;> omega) | fail) only [Nat.reduceLT,Nat.reduceLeDiff,Nat.reduceEqDiff,↓reduceIte,Int.reduceLT,Int.reduceLE,Int.reduceToNat,Int.reduceEq,Int.reduceNe,Nat.reduceAdd,Int.reduceAdd,Int.reduceSub,Int.reduceMul,Nat.reduceMul,Qp0,Qp1,Ql0,Qe0,zAa,zAb,hm]
  exact ⟨_, PH.Le.refl _, by trivial, rfl⟩
end Go.Proofs.Ytblikpbaeippaaa

