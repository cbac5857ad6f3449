/- An argument that is a slice of tokens, opened. Condition: it is read as the form reads it. -/
import Derived.Test.YtdpkipphgkphpaaGreatDoorWb
import Derived.ProofKit
import Derived.OpenShut
import Derived.Deep.Slices
import Derived.Deep.Fields
import Derived.ChangeSame
import Derived.DataElems
namespace Go.Proofs.YtdpkipphgkphpaaGreatDoor
open Go.ChangeShapes Go.WideShapes Go.ChangeAt Go.RowKit Go.Deep

theorem exists_list {α : Type} {Q : Nat → α → Prop} : ∀ n : Nat, (∀ i, i < n → ∃ x, Q i x) → ∃ l : List α, l.length = n ∧ ∀ i x, l[i]? = some x → Q i x
  | 0, _ => ⟨[], rfl, fun i x h => by simp at h⟩
  | n + 1, h => by
    obtain ⟨l, h1, h2⟩ := exists_list n fun i hi => h i (by omega)
    obtain ⟨y, hy⟩ := h n (by omega)
    refine ⟨l ++ [y], by simp [h1], fun i x hx => ?_⟩
    by_cases hi : i < n
    · rw [List.getElem?_append_left (by omega)] at hx
      exact h2 i x hx
    · rw [List.getElem?_append_right (by omega), h1] at hx
      have hi' : i = n := by
        have := (List.getElem?_eq_some_iff.1 hx).1
        simp at this
        omega
      subst hi'
      simp at hx
      subst hx
      exact hy

theorem cells39 : Tryz.prog.cellsOf 39 = 6 := by kernel_rfl
theorem cells3 : Tryz.prog.cellsOf 3 = 1 := by kernel_rfl
theorem cells4 : Tryz.prog.cellsOf 4 = 1 := by kernel_rfl
theorem cells9 : Tryz.prog.cellsOf 9 = 1 := by kernel_rfl
theorem bytes39 : Tryz.prog.bytesOf 39 = 56 := by kernel_rfl

section
variable {H : Type} {enc : TypeId × Value → H} {w : World} {base : Nat} {sp : Nat → Bool} {held : Bool}
theorem one_of {l : List Value} {i : Nat} {v : Value} (h : (l.drop i).take 1 = [v]) : l[i]? = some v := by
  have := congrArg (·[0]?) h
  simpa [List.getElem?_take, List.getElem?_drop] using this

/-- A token's cells. -/
theorem open_tok {fuel : Nat} {cs : List Value} {x : DataW H × List MemPlace} (h : DataW.trod enc Tryz.prog w base sp held fuel 39 cs = some x) : ∃ y : Tk, ∀ r, r < 6 → cs[r]? = ([.int .i64 y.k, .string y.t, .int .i64 y.f, .int .i64 y.a, .int .i64 y.z, .bool y.b] : List Value)[r]? := by
  obtain ⟨xs, n, _, _, _, hlen, hf⟩ := DataW.trod_struct Tryz.underlying39 h
  have g : ∀ i (hi : i < 6), ∃ z, xs[i]? = some z := fun i hi => ⟨_, List.getElem?_eq_getElem (by rw [hlen]; exact hi)⟩
  obtain ⟨z0, e0⟩ := g 0 (by decide)
  obtain ⟨z1, e1⟩ := g 1 (by decide)
  obtain ⟨z2, e2⟩ := g 2 (by decide)
  obtain ⟨z3, e3⟩ := g 3 (by decide)
  obtain ⟨z4, e4⟩ := g 4 (by decide)
  obtain ⟨z5, e5⟩ := g 5 (by decide)
  have f0 : DataW.trod enc Tryz.prog w base sp held n 3 ((cs.drop 0).take (Tryz.prog.cellsOf 3)) = xs[0]? := hf 0 _ rfl
  have f1 : DataW.trod enc Tryz.prog w base sp held n 9 ((cs.drop 1).take (Tryz.prog.cellsOf 9)) = xs[1]? := hf 1 _ rfl
  have f2 : DataW.trod enc Tryz.prog w base sp held n 3 ((cs.drop 2).take (Tryz.prog.cellsOf 3)) = xs[2]? := hf 2 _ rfl
  have f3 : DataW.trod enc Tryz.prog w base sp held n 3 ((cs.drop 3).take (Tryz.prog.cellsOf 3)) = xs[3]? := hf 3 _ rfl
  have f4 : DataW.trod enc Tryz.prog w base sp held n 3 ((cs.drop 4).take (Tryz.prog.cellsOf 3)) = xs[4]? := hf 4 _ rfl
  have f5 : DataW.trod enc Tryz.prog w base sp held n 4 ((cs.drop 5).take (Tryz.prog.cellsOf 4)) = xs[5]? := hf 5 _ rfl
  rw [cells3, e0] at f0
  rw [cells9, e1] at f1
  rw [cells3, e2] at f2
  rw [cells3, e3] at f3
  rw [cells3, e4] at f4
  rw [cells4, e5] at f5
  obtain ⟨k, c0, _, _⟩ := DataW.trod_int Tryz.underlying3 f0
  obtain ⟨t, c1, _, _⟩ := DataW.trod_string Tryz.underlying9 f1
  obtain ⟨f, c2, _, _⟩ := DataW.trod_int Tryz.underlying3 f2
  obtain ⟨a, c3, _, _⟩ := DataW.trod_int Tryz.underlying3 f3
  obtain ⟨z, c4, _, _⟩ := DataW.trod_int Tryz.underlying3 f4
  obtain ⟨b, c5, _⟩ := DataW.trod_bool Tryz.underlying4 f5
  refine ⟨⟨k, t, f, a, z, b⟩, fun r hr => ?_⟩
  match r, hr with
  | 0, _ => exact one_of c0
  | 1, _ => exact one_of c1
  | 2, _ => exact one_of c2
  | 3, _ => exact one_of c3
  | 4, _ => exact one_of c4
  | 5, _ => exact one_of c5

/-- A slice of tokens, opened. -/
theorem open_toks {v : Value} {d : DataW H} {ps : List MemPlace} (hv : ∃ p n c, v = .slice p n c) (h : DataW.Trod enc Tryz.prog w base sp held 22 v d ps) :
    (v = .slice none 0 0 ∧ d = .nil) ∨ ∃ (a : Addr) (n c : Nat) (l : List Tk) (es rs : List (DataW H)), v = .slice (some a) n c ∧ l.length = n ∧ Rd w (some a) l ∧ d = .slice es rs ∧ es.length = n := by
  obtain ⟨p, n, c, rfl⟩ := hv
  obtain ⟨fuel, h⟩ := h
  rcases open_slice Tryz.underlying22 h with ⟨h1, h2⟩ | ⟨a, len, cap, m, n', D, Pl, h1, _, h3, _, h5, h6, h7⟩
  · have e : [Value.slice p n c] = [.slice none 0 0] := h1
    injection e with e _
    exact .inl ⟨e, congrArg Prod.fst h2⟩
  · have e : [Value.slice p n c] = [.slice (some a) len cap] := h1
    injection e with e _
    right
    rw [e]
    have hm : len ≤ m := by rw [h5]; split <;> omega
    obtain ⟨l, q1, q2⟩ := exists_list (Q := fun i (y : Tk) => ∀ r, r < 6 → w.cell? (a.add (i * 6 + r)) = ([.int .i64 y.k, .string y.t, .int .i64 y.f, .int .i64 y.a, .int .i64 y.z, .bool y.b] : List Value)[r]?) len fun i hi => by
      obtain ⟨cs, g1, g2⟩ := h7 i (by omega)
      rw [cells39] at g1
      obtain ⟨_, _, g3⟩ := World.cells?_some g1
      obtain ⟨y, hy⟩ := open_tok g2
      exact ⟨y, fun r hr => by rw [← Addr.add_add, g3 r hr, hy r hr]⟩
    refine ⟨a, len, cap, l, _, _, rfl, q1, fun i x hx => ?_, congrArg Prod.fst h6, by simp⟩
    have hlen : 0 < len := by
      have := (List.getElem?_eq_some_iff.1 hx).1
      omega
    obtain ⟨y0, hy0⟩ : ∃ y, l[0]? = some y := ⟨_, List.getElem?_eq_getElem (by omega)⟩
    have c0 := q2 0 y0 hy0 0 (by decide)
    have c0' : w.cell? a = some (.int .i64 y0.k) := by simpa [Addr.add] using c0
    obtain ⟨b, o, s⟩ := a
    have hs : s = none := by
      unfold World.cell? at c0'
      split at c0'
      · cases s with
        | none => rfl
        | some _ => simp at c0'
      · cases c0'
    subst hs
    have hb : b < w.heap.size := by
      unfold World.cell? at c0'
      split at c0'
      · rename_i hh
        exact (Array.getElem?_eq_some_iff.1 hh).1
      · cases c0'
    refine ⟨b, o, rfl, hb, fun j y hj => ?_⟩
    have hq := q2 j y hj
    have hadd : ∀ m : Nat, (⟨b, o, none⟩ : Addr).add m = ⟨b, o + m, none⟩ := fun m => by
      unfold Addr.add
      split
      · rename_i hm; subst hm; rfl
      · rfl
    simp only [hadd] at hq
    exact ⟨hq 0 (by decide), hq 1 (by decide), hq 2 (by decide), hq 3 (by decide), hq 4 (by decide), hq 5 (by decide)⟩
end
end Go.Proofs.YtdpkipphgkphpaaGreatDoor
