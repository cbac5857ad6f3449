/- Function 5 (Renamed): a row of its own that holds the tokens renamed. Conditions: the slice lies in memory, its bytes are within the reach. -/
import Derived.Test.YtdpkipphgkphpaaGreatDoorWe
namespace Go.Proofs.YtdpkipphgkphpaaGreatDoor
open Go.RowKit

/-- A token renamed. -/
def Tk.isName (x : Tk) (old : ByteArray) : Bool := x.k == 1 && x.t.toList == old.toList
def Tk.ren (x : Tk) (old new : ByteArray) : Tk := if x.isName old then { x with t := new } else x
/-- The first k renamed. -/
def upto (old new : ByteArray) : Nat → List Tk → List Tk
  | 0, l => l
  | _ + 1, [] => []
  | k + 1, x :: l => x.ren old new :: upto old new k l
theorem upto_length (old new : ByteArray) : ∀ (k : Nat) (l : List Tk), (upto old new k l).length = l.length
  | 0, _ => rfl
  | _ + 1, [] => rfl
  | k + 1, _ :: l => by simp [upto, upto_length old new k l]
theorem upto_at (old new : ByteArray) : ∀ (k : Nat) (l : List Tk), (upto old new k l)[k]? = l[k]?
  | 0, _ => rfl
  | _ + 1, [] => rfl
  | k + 1, _ :: l => by simpa [upto] using upto_at old new k l
theorem upto_succ (old new : ByteArray) : ∀ {k : Nat} {l : List Tk} {x : Tk}, l[k]? = some x → upto old new (k + 1) l = (upto old new k l).set k (x.ren old new)
  | 0, [], x, h => by simp at h
  | 0, y :: l, x, h => by simp at h; subst h; rfl
  | k + 1, [], x, h => by simp at h
  | k + 1, y :: l, x, h => by
    have := upto_succ old new (k := k) (l := l) (x := x) (by simpa using h)
    simp only [upto, List.set_cons_succ]
    rw [← this]
theorem upto_all (old new : ByteArray) : ∀ {k : Nat} {l : List Tk}, l.length = k → upto old new k l = l.map (Tk.ren · old new)
  | 0, [], _ => rfl
  | 0, _ :: _, h => by simp at h
  | k + 1, [], h => by simp at h
  | k + 1, x :: l, h => by simp only [upto, List.map_cons, upto_all old new (k := k) (l := l) (by simpa using h)]
theorem flat_set : ∀ {l : List Tk} {k : Nat} {x : Tk} (new : ByteArray), l[k]? = some x → (flat l).set (k * 6 + 1) (.string new) = flat (l.set k { x with t := new })
  | [], k, x, _, h => by simp at h
  | y :: l, 0, x, new, h => by simp at h; subst h; rfl
  | y :: l, k + 1, x, new, h => by
    simp only [flat, List.set_cons_succ]
    rw [← flat_set (l := l) new (by simpa using h), List.set_append, if_neg (by simp [Tk.cells]; omega), show (k + 1) * 6 + 1 - y.cells.length = k * 6 + 1 from by simp [Tk.cells]; omega]

theorem set_self {l : List Tk} {k : Nat} {x : Tk} (h : l[k]? = some x) : l.set k x = l := by
  apply List.ext_getElem?
  intro i
  rw [List.getElem?_set]
  split
  · rename_i e
    subst e
    rw [if_pos (List.getElem?_eq_some_iff.1 h).1, h]
  · rfl

theorem rel_hit {w : World} {B g n cap k : Nat} {l : List Tk} {x : Tk} {old new : ByteArray} (h : w.ownsRow B 39 6 (.slice (some ⟨g, 0, none⟩) n cap) n (flat (upto old new k l))) (hx : l[k]? = some x) (hit : x.isName old = true) :
    (w.setCell ⟨g, k * 6 + 1, none⟩ (.string new)).ownsRow B 39 6 (.slice (some ⟨g, 0, none⟩) n cap) n (flat (upto old new (k + 1) l)) := by
  have e : flat (upto old new (k + 1) l) = (flat (upto old new k l)).set (k * 6 + 1) (.string new) := by
    rw [upto_succ old new hx, flat_set new ((upto_at old new k l).trans hx), Tk.ren, if_pos hit]
  rw [e]
  exact (h.stored (k * 6 + 1) (.string new)).1
theorem rel_miss {w : World} {B g n cap k : Nat} {l : List Tk} {x : Tk} {old new : ByteArray} (h : w.ownsRow B 39 6 (.slice (some ⟨g, 0, none⟩) n cap) n (flat (upto old new k l))) (hx : l[k]? = some x) (hit : x.isName old = false) :
    w.ownsRow B 39 6 (.slice (some ⟨g, 0, none⟩) n cap) n (flat (upto old new (k + 1) l)) := by
  have e : upto old new (k + 1) l = upto old new k l := by
    rw [upto_succ old new hx, Tk.ren, if_neg (by simp [hit])]
    exact set_self ((upto_at old new k l).trans hx)
  rw [e]
  exact h

set_option maxRecDepth 100000 in
set_option maxHeartbeats 800000 in
theorem renamed_any (p : Option Addr) (n c : Nat) (old new : ByteArray) (l : List Tk) (w : World) (hl : l.length = n) (hn : n * 56 ≤ 140737488351232) (h1 : Rd w p l) (hp : p = none → n = 0 ∧ c = 0) :
    Calls Tryz.prog 5 #[.slice p n c, .string old, .string new] w fun e w' => ∃ v, e = .returned v ∧ w'.ownsRow w.heap.size 39 6 v n (flat (l.map (Tk.ren · old new))) ∧ Below w.heap.size w w' := by
  have HL := Lib.hid hl
  have H1 := Lib.hid h1
  have HP := Lib.hid hp
  have HN := Lib.hid hn
  have HC := Lib.hid (clone_any p n c l w hl hn h1 hp)
  have hn' : n ≤ 140737488351232 := by omega
  clear hl h1 hp hn
  go_enter Tryz.func5, Tryz.ntmps5
  go_wp2_with (fail)
  refine HC.out.mono ?_
  rintro e w1 ⟨v, rfl, hown, hB1⟩
  obtain ⟨p', c', rfl, _⟩ := rd_of_owns hown HL.out
  have HO := Lib.hid hown
  clear hown
  go_wp2
  go_loopw [14] (fun v wr => ∃ k : Nat, k ≤ n ∧ v = .int .i64 k ∧ Below w.heap.size w wr ∧ wr.ownsRow w.heap.size 39 6 (.slice p' n c') n (flat (upto old new k l))) (fun v _ => n - (intOf v).toNat)
  case atStart => exact ⟨0, Nat.zero_le _, rfl, hB1, HO.out⟩
  case round =>
    obtain ⟨k, hk, rfl, hB, how⟩ := hrel
    have HW := Lib.hid how
    clear how
    by_cases hlt : k < n
    · obtain ⟨x, hx⟩ : ∃ x, l[k]? = some x := ⟨_, List.getElem?_eq_getElem (by rw [HL.out]; exact hlt)⟩
      obtain ⟨g, rfl⟩ : ∃ g, p' = some ⟨g, 0, none⟩ := by
        rcases HW.out.2 with ⟨_, h0⟩ | ⟨g, cap, _, e, _⟩
        · omega
        · injection e with e1 _ _
          exact ⟨g, e1⟩
      have hA := at_of_owns HW.out (by rw [upto_length]; exact HL.out) k x ((upto_at old new k l).trans hx)
      simp only [Nat.zero_add] at hA
      obtain ⟨e1, e2, e3, e4, e5, e6⟩ := hA
      have hfr : wr.frozen? ⟨g, k * 6 + 1, none⟩ = false := HW.out.frozenAt _
      have hgl : g < wr.heap.size := (HW.out.lt g rfl).2
      have hgb : Hid (w.heap.size ≤ g) := (HW.out.lt g rfl).1
      have i1 : (k : Int) < (n : Int) := by omega
      have i2 : (0 : Int) ≤ (k : Int) := by omega
      have HX := Lib.hid hx
      clear hx
      go_wp2
      · have h1 : x.k = 1 := by assumption
        have h2 : (x.t.toList == old.toList) = true := by assumption
        have hit : x.isName old = true := by simp [Tk.isName, h1, h2]
        go_roundw
        case rel => exact ⟨k + 1, by omega, by go_num, (hB.setCell (p := ⟨g, k * 6 + 1, none⟩) hgb.out _).alloc (by simpa using hB.size) _, (rel_hit HW.out HX.out hit).alloc _⟩
        case measure => simp [intOf]; omega
      · have h2 : (x.t.toList == old.toList) = false := by assumption
        have hit : x.isName old = false := by simp only [Tk.isName, h2, Bool.and_false]
        go_roundw
        case rel => exact ⟨k + 1, by omega, by go_num, hB.alloc hB.size _, (rel_miss HW.out HX.out hit).alloc _⟩
        case measure => simp [intOf]; omega
      · have h1 : ¬ x.k = 1 := by assumption
        have hit : x.isName old = false := by simp [Tk.isName, h1]
        go_roundw
        case rel => exact ⟨k + 1, by omega, by go_num, hB.alloc hB.size _, (rel_miss HW.out HX.out hit).alloc _⟩
        case measure => simp [intOf]; omega
    · go_wp2
      go_ret
      have hkn : k = n := by omega
      subst hkn
      exact ⟨_, rfl, by rw [← upto_all old new HL.out]; exact HW.out, hB⟩
end Go.Proofs.YtdpkipphgkphpaaGreatDoor
