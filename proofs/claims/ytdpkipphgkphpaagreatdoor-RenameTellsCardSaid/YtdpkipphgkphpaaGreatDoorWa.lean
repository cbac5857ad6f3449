/- Function 15 (the test of two tokens): it answers whether they are alike. No condition. -/
import Derived.Test.YtdpkipphgkphpaaGreatDoorRows
import Derived.WalkKit
import Derived.WalkSpells
namespace Go.Proofs.YtdpkipphgkphpaaGreatDoor
open Go.RowKit

/-- A token. -/
structure Tk where
  k : Int
  t : ByteArray
  f : Int
  a : Int
  z : Int
  b : Bool
abbrev Tk.val (x : Tk) : Value := .agg #[.int .i64 x.k, .string x.t, .int .i64 x.f, .int .i64 x.a, .int .i64 x.z, .bool x.b]
/-- Alike, but for where they stand. -/
def Tk.like (x y : Tk) : Bool := x.k == y.k && (x.t.toList == y.t.toList && x.b == y.b)

theorem two (w : World) (o o' : Obj) : Below w.heap.size w ((w.alloc o).alloc o') := ((Below.refl _ _).alloc (Nat.le_refl _) o).alloc (by simp) o'

set_option maxHeartbeats 400000 in
theorem like_any (x y : Tk) (w : World) : Calls Tryz.prog 15 #[x.val, y.val] w fun e w' => e = .returned (.bool (x.like y)) ∧ Below w.heap.size w w' := by
  obtain ⟨k1, t1, f1, a1, z1, b1⟩ := x
  obtain ⟨k2, t2, f2, a2, z2, b2⟩ := y
  simp only [Tk.like, Tk.val]
  cases hk : (k1 == k2) with
  | false =>
    go_enter Tryz.func15, Tryz.ntmps15
    go_wp2
    go_ret
    exact ⟨rfl, two _ _ _⟩
  | true =>
    cases ht : (t1.toList == t2.toList) with
    | false =>
      go_enter Tryz.func15, Tryz.ntmps15
      go_wp2
      go_ret
      exact ⟨by simp, two _ _ _⟩
    | true =>
      go_enter Tryz.func15, Tryz.ntmps15
      go_wp2
      go_ret
      exact ⟨by simp, two _ _ _⟩
end Go.Proofs.YtdpkipphgkphpaaGreatDoor
