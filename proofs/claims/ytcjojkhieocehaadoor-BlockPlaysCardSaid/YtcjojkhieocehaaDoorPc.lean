/- The logic's rules for copies, and for two rows that are lengthened side by side. No condition. -/
import Derived.Test.YtcjojkhieocehaaDoorPa
import Derived.Laws.IdiomCopy
namespace Go.Proofs.YtcjojkhieocehaaDoor.Px
set_option linter.unusedVariables false
set_option linter.unusedSimpArgs false
open Go.RowKit
section
variable {P : Program} {w0 : World} {h : PH} {t e ty dT sT : TypeId} {K : Value → PH → Prop}
/-- A text that fits, copied into a known block. -/
theorem Does_copyT {b o n c : Nat} {l : List UInt8} {k : Bk} (hu : P.underlying dT = some (.slice e)) (hz : szOf P e = some 1) (hb : h.m b = some k) (hle : l.length ≤ n) (hfit : o + l.length ≤ k.xs.length)
    (hk : K (.int .i64 l.length) (h.new b ⟨k.xs.take o ++ bs l ++ k.xs.drop (o + l.length), k.lim⟩)) : Does P w0 h (Builtin.copy_ #[dT, sT] ty #[.slice (some ⟨b, o, none⟩) n c, str l]) K := by
  intro w s
  obtain ⟨ht, hs⟩ := s.store (bs l) hb (o := o) (by rw [bs_length]; exact hfit)
  rw [bs_length] at hs
  refine ⟨_, w.setCells b o (bs l), _, ?_, hk, hs⟩
  have hlen : (l.map fun x => Value.int .u8 (x.toNat : Int)) = bs l := rfl
  have hmin : Nat.min l.length n = l.length := Nat.min_eq_left hle
  have hst := run_storeCells_cells (P := P) b o (bs l) 0 w (by simpa using fun j hj => (ht j hj).1) (by simpa using fun j hj => (ht j hj).2) (by
    intro v hv
    obtain ⟨x, _, rfl⟩ := List.mem_map.1 hv
    rfl)
  unfold str
  simp [Builtin.copy_, run_underlying hu, Builtin.lenOf, Builtin.firstCells, run_sizeOf hz, size_mk, hmin]
  rw [hlen, List.take_of_length_le (by rw [bs_length]; omega), hst]
  rfl
/-- Cells that fit, copied into a known block. -/
theorem Does_copyL {b o n c m c' : Nat} {a : Addr} {cs : List Value} {k : Bk} (hu : P.underlying dT = some (.slice e)) (hz : szOf P e = some 1) (hb : h.m b = some k) (hcs : cs.length = Nat.min m n) (h1 : allOne cs) (hr : rdN w0 h a cs.length = some cs) (hfit : o + cs.length ≤ k.xs.length)
    (hk : K (.int .i64 cs.length) (h.new b ⟨k.xs.take o ++ cs ++ k.xs.drop (o + cs.length), k.lim⟩)) : Does P w0 h (Builtin.copy_ #[dT, sT] ty #[.slice (some ⟨b, o, none⟩) n c, .slice (some a) m c']) K := by
  intro w s
  obtain ⟨ht, hs⟩ := s.store cs hb (o := o) hfit
  obtain ⟨_, hc⟩ := rdN_sound s hr
  exact ⟨_, _, _, run_copy_cells (P := P) w dT sT ty e b o n c a m c' cs hu hz hcs hc (fun j hj => (ht j hj).1) (fun j hj => (ht j hj).2) h1, hk, hs⟩
end
theorem PH.new_swap (h : PH) {a b : Nat} (k k' k'' : Bk) (hab : a ≠ b) : ((h.new a k).new b k').new a k'' = (h.new a k'').new b k' := by
  refine PH.eq_of (by simp only [PH.new_top]; omega) fun x => ?_
  simp only [PH.new_m]
  by_cases ha : x = a
  · subst ha; simp [hab]
  · simp [ha]
theorem Own.keep {h h' : PH} {v v' u : Value} {sz n : Nat} {xs : List Value} (o : Own h sz u n xs) (s : Stays h h' v v') (hs : ∀ x, v.ownBlock = some x → u.ownBlock ≠ some x) : Own h' sz u n xs :=
  ⟨o.1, o.2.imp id fun ⟨b, c, h1, h2, h3, h4⟩ => ⟨b, c, h1, h2, h3, s.keep _ _ h4 fun e => hs _ e (by rw [h1]; rfl)⟩⟩
theorem Own.block {h : PH} {v : Value} {sz n : Nat} {xs : List Value} (o : Own h sz v n xs) {x : Nat} (e : v.ownBlock = some x) : x < h.top := by
  rcases o.2 with ⟨h1, _⟩ | ⟨b, c, h1, _, _, h4⟩
  · rw [h1] at e; cases e
  · rw [h1] at e
    have : b = x := by injection e
    rw [← this]; exact h.lt _ _ h4
theorem Own.nil_zero {h : PH} {sz n c : Nat} {xs : List Value} {A : Option Addr} (o : Own h sz (.slice A n c) n xs) : A = none → n = 0 := by
  rintro rfl
  rcases o.2 with ⟨_, h1⟩ | ⟨b, c', h1, _⟩
  · exact h1
  · cases h1
/-- Over h0, two rows of the call's own that lie apart. -/
structure Two (h0 h : PH) (sz sz' : Nat) (v : Value) (n : Nat) (xs : List Value) (v' : Value) (n' : Nat) (xs' : List Value) : Prop where
  one : OwnS h0 h sz v n xs
  two : OwnS h0 h sz' v' n' xs'
  apart : ∀ x, v.ownBlock = some x → v'.ownBlock ≠ some x
theorem Two.swap {h0 h : PH} {sz sz' n n' : Nat} {v v' : Value} {xs xs' : List Value} (t : Two h0 h sz sz' v n xs v' n' xs') : Two h0 h sz' sz v' n' xs' v n xs :=
  ⟨t.two, t.one, fun x e e' => t.apart x e' e⟩
theorem Two.more {h0 h h' : PH} {sz sz' n n' : Nat} {v v' : Value} {xs xs' : List Value} (t : Two h0 h sz sz' v n xs v' n' xs') (l : PH.Le h h') : Two h0 h' sz sz' v n xs v' n' xs' :=
  ⟨t.one.more l, t.two.more l, t.apart⟩
theorem Two.stays {h0 h h' : PH} {sz sz' n n' m : Nat} {v v' u : Value} {xs xs' ys : List Value} (t : Two h0 h sz sz' v n xs v' n' xs') (s : Stays h h' v u) (o : Own h' sz u m ys) : Two h0 h' sz sz' u m ys v' n' xs' := by
  refine ⟨t.one.stays s o, ⟨(t.one.stays s o).le, t.two.own.keep s t.apart, t.two.new⟩, fun x e e' => ?_⟩
  rcases s.fresh x e with h1 | h1
  · exact t.apart x h1 e'
  · have := t.two.own.block e'
    omega
end Go.Proofs.YtcjojkhieocehaaDoor.Px
