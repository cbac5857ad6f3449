/- Function 7 (Same): true at two slices that read as one list. Conditions: both lie in memory, their length is within the reach. -/
import Derived.Test.YtdpkipphgkphpaaGreatDoorWa
import Derived.Deep.QuietTactic
import Derived.BigQuiet
import Derived.Lib.Hide
import Derived.IntWalk
namespace Go.Proofs.YtdpkipphgkphpaaGreatDoor
open Go.RowKit

/-- The cells of tokens, from an address on. -/
def At (w : World) (b o : Nat) (l : List Tk) : Prop := ∀ (i : Nat) (x : Tk), l[i]? = some x → w.cell? ⟨b, o + i * 6, none⟩ = some (.int .i64 x.k) ∧ w.cell? ⟨b, o + i * 6 + 1, none⟩ = some (.string x.t) ∧ w.cell? ⟨b, o + i * 6 + 2, none⟩ = some (.int .i64 x.f) ∧
  w.cell? ⟨b, o + i * 6 + 3, none⟩ = some (.int .i64 x.a) ∧ w.cell? ⟨b, o + i * 6 + 4, none⟩ = some (.int .i64 x.z) ∧ w.cell? ⟨b, o + i * 6 + 5, none⟩ = some (.bool x.b)

theorem At.keep {w w' : World} {B b o : Nat} {l : List Tk} (h : At w b o l) (hB : Below B w w') (hb : b < B) : At w' b o l := fun i x hx =>
  have p := h i x hx
  ⟨(hB.cell hb).trans p.1, (hB.cell hb).trans p.2.1, (hB.cell hb).trans p.2.2.1, (hB.cell hb).trans p.2.2.2.1, (hB.cell hb).trans p.2.2.2.2.1, (hB.cell hb).trans p.2.2.2.2.2⟩

/-- What a slice of tokens reads as. -/
def Rd (w : World) (p : Option Addr) (l : List Tk) : Prop := ∀ (i : Nat) (x : Tk), l[i]? = some x → ∃ b o : Nat, p = some ⟨b, o, none⟩ ∧ b < w.heap.size ∧ At w b o l

theorem Rd.keep {w w' : World} {p : Option Addr} {l : List Tk} (h : Rd w p l) (hB : Below w.heap.size w w') : Rd w' p l := fun i x hx =>
  have ⟨b, o, e, hb, hA⟩ := h i x hx
  ⟨b, o, e, Nat.lt_of_lt_of_le hb hB.size, hA.keep hB hb⟩

theorem below_drewN {B : Nat} {a w : World} (h : Below B a w) (n : Nat) : Below B a (w.drewN n) := h.trans ⟨rfl, rfl, rfl, Nat.le_refl _, fun _ _ => rfl⟩

set_option maxHeartbeats 400000 in
theorem same_any (p1 p2 : Option Addr) (c1 c2 n : Nat) (l : List Tk) (w : World) (hl : l.length = n) (hn : n ≤ 140737488351232) (h1 : Rd w p1 l) (h2 : Rd w p2 l) :
    Calls Tryz.prog 7 #[.slice p1 n c1, .slice p2 n c2] w fun e w' => e = .returned (.bool true) ∧ Below w.heap.size w w' := by
  have HL := Lib.hid hl
  have H1 := Lib.hid h1
  have H2 := Lib.hid h2
  clear hl h1 h2
  go_enter Tryz.func7, Tryz.ntmps7
  go_wp2
  go_loopw [5] (fun v wr => ∃ k : Nat, k ≤ n ∧ v = .int .i64 k ∧ Below w.heap.size w wr) (fun v _ => n - (intOf v).toNat)
  case atStart => exact ⟨0, Nat.zero_le _, rfl, Below.refl _ _⟩
  case round =>
    obtain ⟨k, hk, rfl, hB⟩ := hrel
    go_wp2
    · have hlt : k < n := by assumption
      obtain ⟨x, hx⟩ : ∃ x, l[k]? = some x := ⟨_, List.getElem?_eq_getElem (by rw [HL.out]; exact hlt)⟩
      obtain ⟨b1, o1, rfl, hb1, r1⟩ := H1.out k x hx
      obtain ⟨b2, o2, rfl, hb2, r2⟩ := H2.out k x hx
      obtain ⟨e1, e2, e3, e4, e5, e6⟩ := (r1.keep hB hb1) k x hx
      obtain ⟨f1, f2, f3, f4, f5, f6⟩ := (r2.keep hB hb2) k x hx
      have i1 : (k : Int) < (n : Int) := by omega
      have i2 : (0 : Int) ≤ (k : Int) := by omega
      clear hx r1 r2
      go_quiet (fail)
      go_wp2
      exact ⟨⟨k + 1, by omega, by go_num, below_drewN hB _⟩, by simp [intOf]; omega⟩
    · go_ret
      exact ⟨rfl, hB⟩
end Go.Proofs.YtdpkipphgkphpaaGreatDoor
