/- Function 13 (Clone): a row of its own that holds the same tokens. Conditions: the slice lies in memory, its bytes are within the reach. -/
import Derived.Test.YtdpkipphgkphpaaGreatDoorWd
import Derived.OwnWalk
import Derived.Laws.AppendOwn
import Derived.Laws.OwnMore
import Derived.Lib.SliceRun
namespace Go.Proofs.YtdpkipphgkphpaaGreatDoor
open Go.RowKit

/-- A token's cells. -/
def Tk.cells (x : Tk) : List Value := [.int .i64 x.k, .string x.t, .int .i64 x.f, .int .i64 x.a, .int .i64 x.z, .bool x.b]
def flat : List Tk → List Value
  | [] => []
  | x :: l => x.cells ++ flat l
theorem flat_append : ∀ (l m : List Tk), flat (l ++ m) = flat l ++ flat m
  | [], _ => rfl
  | x :: l, m => by simp only [List.cons_append, flat, flat_append l m, List.append_assoc]
theorem flat_length : ∀ l : List Tk, (flat l).length = l.length * 6
  | [] => rfl
  | x :: l => by simp only [flat, List.length_append, flat_length l, List.length_cons, Tk.cells, List.length_nil]; omega
theorem flat_get : ∀ {l : List Tk} {i r : Nat} {x : Tk}, l[i]? = some x → r < 6 → (flat l)[i * 6 + r]? = x.cells[r]?
  | [], i, r, x, h, _ => by simp at h
  | y :: l, i, r, x, h, hr => by
    cases i with
    | zero =>
      simp at h
      subst h
      simp only [flat, Nat.zero_mul, Nat.zero_add]
      rw [List.getElem?_append_left (by simpa [Tk.cells] using hr)]
    | succ i =>
      simp only [flat]
      rw [List.getElem?_append_right (by simp [Tk.cells]; omega), show (i + 1) * 6 + r - y.cells.length = i * 6 + r from by simp [Tk.cells]; omega]
      exact flat_get (l := l) (by simpa using h) hr
theorem flat_one : ∀ {l : List Tk} {u : Value}, u ∈ flat l → u.oneCell' = true
  | [], u, h => by simp [flat] at h
  | x :: l, u, h => by
    simp only [flat, List.mem_append] at h
    rcases h with h | h
    · simp only [Tk.cells, List.mem_cons, List.not_mem_nil, or_false] at h
      rcases h with rfl | rfl | rfl | rfl | rfl | rfl <;> rfl
    · exact flat_one h

theorem At.flat {w : World} {b o : Nat} {l : List Tk} (h : At w b o l) {j : Nat} {u : Value} (hj : (flat l)[j]? = some u) : w.cell? ⟨b, o + j, none⟩ = some u := by
  have hlen : j < l.length * 6 := by
    have := (List.getElem?_eq_some_iff.1 hj).1
    rwa [flat_length] at this
  obtain ⟨i, r, hi, hr, e⟩ : ∃ i r, i < l.length ∧ r < 6 ∧ j = i * 6 + r := ⟨j / 6, j % 6, by omega, by omega, by omega⟩
  obtain ⟨x, hx⟩ : ∃ x, l[i]? = some x := ⟨_, List.getElem?_eq_getElem hi⟩
  subst e
  rw [flat_get hx hr] at hj
  obtain ⟨h0, h1, h2, h3, h4, h5⟩ := h i x hx
  have e : o + (i * 6 + r) = o + i * 6 + r := by omega
  rw [e]
  match r, hr with
  | 0, _ => simp [Tk.cells] at hj; subst hj; exact h0
  | 1, _ => simp [Tk.cells] at hj; subst hj; exact h1
  | 2, _ => simp [Tk.cells] at hj; subst hj; exact h2
  | 3, _ => simp [Tk.cells] at hj; subst hj; exact h3
  | 4, _ => simp [Tk.cells] at hj; subst hj; exact h4
  | 5, _ => simp [Tk.cells] at hj; subst hj; exact h5

theorem at_of_owns {w : World} {B g n cap : Nat} {l : List Tk} (h : w.ownsRow B 39 6 (.slice (some ⟨g, 0, none⟩) n cap) n (flat l)) (hl : l.length = n) : At w g 0 l := by
  intro i x hx
  have hi := (List.getElem?_eq_some_iff.1 hx).1
  have hc : ∀ r, r < 6 → w.cell? ⟨g, 0 + i * 6 + r, none⟩ = x.cells[r]? := fun r hr => by
    rw [Nat.zero_add, h.cellAt (i * 6 + r) (by omega), flat_get hx hr]
  exact ⟨hc 0 (by omega), hc 1 (by omega), hc 2 (by omega), hc 3 (by omega), hc 4 (by omega), hc 5 (by omega)⟩

/-- A row that is owned reads as it holds. -/
theorem rd_of_owns {w : World} {B n : Nat} {v : Value} {l : List Tk} (h : w.ownsRow B 39 6 v n (flat l)) (hl : l.length = n) : ∃ p c, v = .slice p n c ∧ Rd w p l := by
  obtain ⟨h1, ⟨rfl, rfl⟩ | ⟨g, cap, cur, rfl, h2, h3, h4, h5, h6, h7⟩⟩ := h
  · refine ⟨none, 0, rfl, fun i x hx => ?_⟩
    have := (List.getElem?_eq_some_iff.1 hx).1
    omega
  · exact ⟨_, cap, rfl, fun i x hx => ⟨g, 0, rfl, (Array.getElem?_eq_some_iff.1 h3).1, at_of_owns ⟨h1, .inr ⟨g, cap, cur, rfl, h2, h3, h4, h5, h6, h7⟩⟩ hl⟩⟩

theorem tok_info : (Tryz.prog.info? 39).map (fun i => (i.zero, i.size, i.bytes)) = some (some (.agg #[.int .i64 0, .string ⟨#[]⟩, .int .i64 0, .int .i64 0, .int .i64 0, .bool false]), 6, 56) := by kernel_rfl
theorem toks : Tryz.prog.underlying 22 = some (.slice 39) := by kernel_rfl

set_option maxRecDepth 100000 in
set_option maxHeartbeats 400000 in
theorem clone_any (p : Option Addr) (n c : Nat) (l : List Tk) (w : World) (hl : l.length = n) (hn : n * 56 ≤ 140737488351232) (h1 : Rd w p l) (hp : p = none → n = 0 ∧ c = 0) :
    Calls Tryz.prog 13 #[.slice p n c] w fun e w' => ∃ v, e = .returned v ∧ w'.ownsRow w.heap.size 39 6 v n (flat l) ∧ Below w.heap.size w w' := by
  have HL := Lib.hid hl
  have H1 := Lib.hid h1
  have HP := Lib.hid hp
  have HN := Lib.hid hn
  clear hl h1 hp hn
  cases p with
  | none =>
    obtain ⟨rfl, rfl⟩ := HP.out rfl
    have hnil : ∀ W, (binOp .eql 22 (.slice none 0 0) (.slice none 0 0)).run Tryz.prog W = .ok (.bool true) W := fun W => Lib.run_eql_slice_nil W _ _ _ _ _ _ _ toks
    go_enter Tryz.func13, Tryz.ntmps13
    go_wp2
    go_ret
    have : l = [] := List.eq_nil_of_length_eq_zero HL.out
    subst this
    exact ⟨_, rfl, World.ownsRow_nil _ _ _ _, Below.refl _ _⟩
  | some ad =>
    have HC : Hid (∀ j u, (flat l)[j]? = some u → (w.alloc (Obj.cells #[] 39)).cell? (ad.add j) = some u) := fun j u hj => by
      obtain ⟨x, hx⟩ : ∃ x, l[0]? = some x := by
        cases l with
        | nil => simp [flat] at hj
        | cons y l => exact ⟨y, rfl⟩
      obtain ⟨b, o, e, hb, hA⟩ := H1.out 0 x hx
      injection e with e
      subst e
      have := ((Below.refl w.heap.size w).alloc (Nat.le_refl _) (Obj.cells #[] 39)).cell (p := ⟨b, o + j, none⟩) hb
      rw [show (⟨b, o, none⟩ : Addr).add j = ⟨b, o + j, none⟩ from by simp [Addr.add]]
      exact this.trans (hA.flat hj)
    have HO : Hid ((w.alloc (Obj.cells #[] 39)).ownsRow w.heap.size 39 6 (.slice (some ⟨w.heap.size, 0, none⟩) 0 0) 0 []) := World.ownsRow_lit w #[] 0 (Nat.le_refl _) (Nat.zero_le _) rfl
    have HM : Hid (0 + n ≤ maxLen) := by have := HN.out; show 0 + n ≤ maxLen; unfold maxLen; omega
    have HN2 : Hid ((0 + n) * 56 ≤ 140737488355328) := by have := HN.out; show (0 + n) * 56 ≤ _; omega
    obtain ⟨i0, hi, hz0, hz1, hz2⟩ := info_parts tok_info
    have hnil : ∀ W, (binOp .eql 22 (.slice (some ad) n c) (.slice none 0 0)).run Tryz.prog W = .ok (.bool false) W := fun W => Lib.run_eql_slice_nil W _ _ _ _ _ _ _ toks
    go_enter Tryz.func13, Tryz.ntmps13
    go_wp2_with (at_builtin; refine wpList_append_own _ rfl (.tmp 5) (.tmp 6) 22 rfl w.heap.size 39 i0 _ 6 56 toks hi hz0 hz1 hz2 rfl (by decide) _ 0 [] rfl HO.out ad n c (flat l) rfl (by rw [flat_length, HL.out]) HC.out (fun u hu => flat_one hu) HM.out HN2.out (by simp) ?_; intro v' w1 hown hgrow _)
    go_ret
    refine ⟨v', rfl, by simpa using hown, ((Below.refl w.heap.size w).alloc (Nat.le_refl _) _).grown hgrow (by simp) fun k hk => ?_⟩
    have hk' : w.heap.size = k := Option.some.inj hk
    omega
end Go.Proofs.YtdpkipphgkphpaaGreatDoor
