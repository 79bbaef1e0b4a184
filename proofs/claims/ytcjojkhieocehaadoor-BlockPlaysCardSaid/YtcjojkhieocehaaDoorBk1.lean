/- A device's state in the logic: its row of bytes, its numbers. No condition. -/
import Derived.Test.YtcjojkhieocehaaDoorEr
namespace Go.Proofs.YtcjojkhieocehaaDoor
set_option linter.unusedVariables false
set_option linter.unusedSimpArgs false
open Go.RowKit Px
theorem info_u8 : (Tryd.prog.info? 5).map (fun i => (i.zero, i.size, i.bytes)) = some (some (.int .u8 0), 1, 1) := by kernel_rfl
theorem el_u8 : El Tryd.prog 46 5 (.int .u8 0) 1 1 := ⟨Tryd.underlying46, info_parts info_u8, rfl, by decide⟩
/-- A slice of bytes that may be lengthened. -/
def Ro (h : PH) (A : Option Addr) (l : List UInt8) (c : Nat) : Prop :=
  (A = none ∧ l = [] ∧ c = 0) ∨ ∃ b X lim, A = some ⟨b, 0, none⟩ ∧ l.length ≤ c ∧ c ≤ maxLen ∧ h.m b = some ⟨X, lim⟩ ∧ l.length ≤ X.length ∧ X.take l.length = bs l ∧ c ≤ lim
theorem Ro.rs {w0 : World} {h : PH} {A : Option Addr} {l : List UInt8} {c : Nat} (r : Ro h A l c) : Rs w0 h 1 A l.length (bs l) := by
  rcases r with ⟨rfl, rfl, rfl⟩ | ⟨b, X, lim, rfl, h1, h2, h3, h4, h5, h6⟩
  · exact Rs.nil w0 h 1 none
  · refine ⟨by rw [bs_length, Nat.mul_one], fun _ => ⟨_, rfl, ?_⟩⟩
    unfold rdN
    simp only [h3]
    rw [if_pos ⟨trivial, by omega⟩, Nat.mul_one, List.drop_zero, h5]
theorem Ro.len {h : PH} {A : Option Addr} {l : List UInt8} {c : Nat} (r : Ro h A l c) : l.length ≤ c := by
  rcases r with ⟨rfl, rfl, rfl⟩ | ⟨b, X, lim, rfl, h1, _⟩
  · simp
  · exact h1
theorem Ro.same {h h' : PH} {A : Option Addr} {l : List UInt8} {c : Nat} (r : Ro h A l c) (hs : ∀ a, A = some a → h'.m a.block = h.m a.block) : Ro h' A l c := by
  rcases r with h1 | ⟨b, X, lim, rfl, h1, h2, h3, h4, h5, h6⟩
  · exact .inl h1
  · exact .inr ⟨b, X, lim, rfl, h1, h2, by rw [hs _ rfl]; exact h3, h4, h5, h6⟩
theorem Does_appR {w0 : World} {h : PH} {A : Option Addr} {l s : List UInt8} {c : Nat} {ty : TypeId} {K : Value → PH → Prop} (r : Ro h A l c) (hsz : l.length + s.length ≤ 1000000000)
    (hk : ∀ A' c' h', Ro h' A' (l ++ s) c' → h.top ≤ h'.top → (∀ x, x < h.top → (∀ a, A = some a → a.block ≠ x) → h'.m x = h.m x) → (∀ a, A' = some a → A = some a ∨ h.top ≤ a.block) → K (.slice A' (l ++ s).length c') h') :
    Does Tryd.prog w0 h (Builtin.append_ #[46, 9] ty #[.slice A l.length c, str s]) K := by
  have hll : (l ++ s).length = l.length + s.length := List.length_append
  rcases Nat.eq_zero_or_pos s.length with h0 | h0
  · have hs0 : s = [] := List.eq_nil_of_length_eq_zero h0
    subst hs0
    refine Does_app0T el_u8 Tryd.underlying9 r.len ?_
    have := hk A c h (by simpa using r) (Nat.le_refl _) (fun _ _ _ => rfl) (fun a e => .inl e)
    simpa using this
  rcases r with ⟨rfl, rfl, rfl⟩ | ⟨b, X, lim, rfl, h1, h2, h3, h4, h5, h6⟩
  · intro w sm
    obtain ⟨i, hi, hz, hsi, hby⟩ := el_u8.info
    obtain ⟨v', w', hr, ho', hg, hn⟩ := Lib.run_append_own_string (P := Tryd.prog) w w.heap.size 46 9 ty 5 i el_u8.under Tryd.underlying9 hi hz hsi hby (.slice none 0 0) 0 [] (World.ownsRow_nil _ _ _ _) ⟨s.toArray⟩ (by rw [size_mk]; unfold maxLen; simp at hsz; omega) (by rw [size_mk]; simp at hsz; omega) (Nat.le_refl _)
    rw [size_mk, cells_str] at ho'
    obtain ⟨b', c', rfl, g1, g2, g3, g4⟩ := Own.ofRow ho' (by omega)
    simp only [Nat.zero_add, List.nil_append, Nat.mul_one] at g1 g4
    refine ⟨_, w', h.new b' ⟨bs s, c'⟩, hr, ?_, (sm.step (row := none) hg (fun _ e => by cases e)).put (Nat.le_trans sm.base g3) g4⟩
    have ht := Nat.le_trans sm.top g3
    have := hk (some ⟨b', 0, none⟩) c' (h.new b' ⟨bs s, c'⟩) (.inr ⟨b', bs s, c', rfl, by simpa using g1, g2, by rw [PH.new_m, if_pos rfl], by simp [bs_length], by show List.take s.length (bs s) = bs s; rw [List.take_of_length_le (by rw [bs_length]; omega)], Nat.le_refl _⟩) (by simp only [PH.new_top]; omega) (fun x hx _ => by rw [PH.new_m, if_neg (by omega)]) (fun a e => by cases e; exact .inr ht)
    simpa using this
  · by_cases hroom : l.length + s.length ≤ c
    · intro w sm
      obtain ⟨i, hi, hz, hsi, hby⟩ := el_u8.info
      obtain ⟨q1, cur, ct, lo, hi', q2, q3, q4, q5, q6⟩ := sm.sat b _ h3
      simp only at q3 q4 q5 q6
      have hbl := bs_length s
      have hf := Lib.run_firstCells_string (P := Tryd.prog) w 1 ⟨s.toArray⟩
      rw [cells_str, size_mk] at hf
      have hst := run_storeCells_cells (P := Tryd.prog) b l.length (bs s) 0 w (fun j hj => by
          rw [cell_of_row w b _ cur ct _ q2, Array.getElem?_eq_getElem (by omega)]; rfl) (fun j hj => by
          simp [World.frozen?, q2]; omega) (by
        intro v hv
        obtain ⟨x, _, rfl⟩ := List.mem_map.1 hv
        rfl)
      have hrun : (Builtin.append_ #[46, 9] ty #[.slice (some ⟨b, 0, none⟩) l.length c, str s]).run Tryd.prog w = .ok (.slice (some ⟨b, 0, none⟩) (l.length + s.length) c) (w.setCells b (l.length + 0) (bs s)) := by
        unfold str
        simp [Builtin.append_, run_underlying el_u8.under, run_underlying Tryd.underlying9, sizeOf, typeInfo, hi, hsi, Builtin.lenOf, size_mk, hroom, hf, Addr.add_mid, hst]
      rw [Nat.add_zero] at hrun
      have hh := setCells_heap_any (w := w) (b := b) (t := ct) (fz := (lo, hi')) (cs := cur.toList) (bs s) l.length (by simpa using q2) (by simp; omega)
      have hblt := h.lt _ _ h3
      have hK := hk (some ⟨b, 0, none⟩) c ((h.del b).new b ⟨bs (l ++ s), lim⟩) (.inr ⟨b, bs (l ++ s), lim, rfl, by omega, h2, by rw [PH.new_m, if_pos rfl], by rw [bs_length]; omega, by rw [List.take_of_length_le (by rw [bs_length]; omega)], h6⟩) (by simp only [PH.new_top, PH.del_top]; omega) (fun x hx hne => by rw [PH.new_m, if_neg (fun e => hne _ rfl e.symm), PH.del_m, if_neg (fun e => hne _ rfl e.symm)]) (fun a e => .inl e)
      rw [hll] at hK
      refine ⟨_, _, (h.del b).new b ⟨bs (l ++ s), lim⟩, hrun, hK, ?_⟩
      refine ((sm.del b).step (row := some b) (grownBy_setCells b (bs s) l.length w) (fun x e => ?_)).put q1 ⟨_, ct, lo, hi', by simpa using hh, ?_, q4, ?_, ?_⟩
      · injection e with e; subst e; exact ⟨q1, by simp [PH.del_m]⟩
      · simp; omega
      · simp only [bs_length]; omega
      · simp only
        have hcl : l.length ≤ cur.toList.length := by simp; omega
        have e1 : cur.toList.take l.length = bs l := by
          rw [← h5, ← q6, List.take_take, Nat.min_eq_left h4]
        have e2 := List.take_left (l₁ := cur.toList.take l.length ++ bs s) (l₂ := cur.toList.drop (l.length + (bs s).length))
        rw [e1, ← bs_append] at e2
        rw [List.toList_toArray, e1]
        simpa [List.append_assoc, bs_append] using e2
    · refine Does_growT el_u8 Tryd.underlying9 (xs := bs l) ?_ (by omega) hsz fun b' c' g1 g2 g3 => ?_
      · unfold rdN
        simp only [h3]
        rw [if_pos ⟨trivial, by omega⟩, List.drop_zero, h5]
      · rw [← bs_append]
        have hK := hk (some ⟨b', 0, none⟩) c' (h.new b' ⟨bs (l ++ s), c'⟩) (.inr ⟨b', bs (l ++ s), c', rfl, by omega, g3, by rw [PH.new_m, if_pos rfl], by rw [bs_length]; omega, by rw [List.take_of_length_le (by rw [bs_length]; omega)], Nat.le_refl _⟩) (by simp only [PH.new_top]; omega) (fun x hx _ => by rw [PH.new_m, if_neg (by omega)]) (fun a e => by cases e; exact .inr g1)
        rwa [hll] at hK
structure Dk where
  l : List UInt8
  safe : Int
  room : Int
  fuse : Int
  down : Bool
def DKc (A : Option Addr) (c : Nat) (d : Dk) : List Value := [.slice A d.l.length c, .int .i64 d.safe, .int .i64 d.room, .int .i64 d.fuse, .bool d.down]
/-- Over h0, a device of the call's own. -/
structure DS (h0 h : PH) (b : Nat) (d : Dk) : Prop where
  top : h0.top ≤ h.top
  low : h0.m b = none
  same : ∀ x k, h0.m x = some k → h.m x = some k
  cells : ∃ A c, h.m b = some ⟨DKc A c d, 5⟩ ∧ Ro h A d.l c ∧ ∀ a, A = some a → h0.m a.block = none ∧ a.block ≠ b
theorem DS.upd {h0 h : PH} {b : Nat} {d d' : Dk} {A : Option Addr} {c : Nat} (hd : DS h0 h b d) (hr : Ro h A d'.l c) (hA : ∀ a, A = some a → h0.m a.block = none ∧ a.block ≠ b) : DS h0 (h.new b ⟨DKc A c d', 5⟩) b d' :=
  ⟨by simp only [PH.new_top]; have := hd.top; omega, hd.low, fun x k e => by rw [PH.new_m, if_neg (fun q => by subst q; rw [hd.low] at e; cases e)]; exact hd.same x k e, A, c, by rw [PH.new_m, if_pos rfl], hr.same fun a e => by rw [PH.new_m, if_neg (hA a e).2], hA⟩
theorem Px.PH.gone (h : PH) {b : Nat} (hb : h.top ≤ b) : h.m b = none := by
  cases e : h.m b with
  | none => rfl
  | some k => have := h.lt _ _ e; omega
theorem DS.more {h0 h : PH} {b be : Nat} {d : Dk} {k : Bk} (hd : DS h0 h b d) (he : h.top ≤ be) : DS h0 (h.new be k) b d := by
  obtain ⟨A, c, hb, hr, hA⟩ := hd.cells
  have hlt := h.lt _ _ hb
  refine ⟨by simp only [PH.new_top]; have := hd.top; omega, hd.low, fun x k e => by rw [PH.new_m, if_neg (by have := hd.top; have := h0.lt _ _ e; omega)]; exact hd.same x k e, A, c, by rw [PH.new_m, if_neg (by omega), hb], hr.same fun a e => ?_, hA⟩
  rcases hr with ⟨h1, _⟩ | ⟨b', X, lim, h1, _, _, h3, _⟩
  · rw [h1] at e; cases e
  · rw [h1] at e; cases e
    have := h.lt _ _ h3
    rw [PH.new_m, if_neg (by simp only; omega)]
end Go.Proofs.YtcjojkhieocehaaDoor
