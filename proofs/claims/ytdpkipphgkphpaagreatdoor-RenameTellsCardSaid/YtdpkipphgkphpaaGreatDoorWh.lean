/- Function 3 (RenameTells): it answers true and leaves the elder blocks. Conditions: the listed tables lie as the row says, the world is shaped, both slices lie in memory within the reach. -/
import Derived.Test.YtdpkipphgkphpaaGreatDoorWg
import Derived.Test.YtdpkipphgkphpaaGreatDoorAw
namespace Go.Proofs.YtdpkipphgkphpaaGreatDoor
open Go.RowKit

theorem below_awake {W : World} (h : laidMetH Tryz.prog Rows.renameTellsRow.laid W) (hsh : W.ShapedOpen Tryz.prog) : Calls Tryz.prog 4 #[] W fun e w' => e = .returned (.bool true) ∧ Below W.heap.size W w' :=
  (Absm.Ax.awake_any h hsh).mono fun _ _ h => ⟨h.1, ⟨h.2.2.2.1, h.2.2.2.2.1, h.2.2.2.2.2, h.2.2.1, h.2.1⟩⟩

set_option maxRecDepth 100000 in
set_option maxHeartbeats 800000 in
theorem tells_any (p1 p2 : Option Addr) (n1 c1 n2 c2 : Nat) (old new : ByteArray) (l1 l2 : List Tk) (W : World) (hl : laidMetH Tryz.prog Rows.renameTellsRow.laid W) (hsh : W.ShapedOpen Tryz.prog)
    (e1 : l1.length = n1) (e2 : l2.length = n2) (hn1 : n1 * 56 ≤ 140737488351232) (hn2 : n2 * 56 ≤ 140737488351232) (h1 : Rd W p1 l1) (h2 : Rd W p2 l2) (hp1 : p1 = none → n1 = 0 ∧ c1 = 0) :
    Calls Tryz.prog 3 #[.slice p1 n1 c1, .slice p2 n2 c2, .string old, .string new] W fun e w' => e = .returned (.bool true) ∧ Below W.heap.size W w' := by
  have H0 := Lib.hid (below_awake hl hsh)
  have HH : Hid (l1.length = n1 ∧ l2.length = n2 ∧ n1 * 56 ≤ 140737488351232 ∧ n2 * 56 ≤ 140737488351232 ∧ n1 ≤ 140737488351232 ∧ n2 ≤ 140737488351232 ∧ Rd W p1 l1 ∧ Rd W p2 l2 ∧ (p1 = none → n1 = 0 ∧ c1 = 0)) := ⟨e1, e2, hn1, hn2, by omega, by omega, h1, h2, hp1⟩
  clear hl hsh e1 e2 hn1 hn2 h1 h2 hp1
  go_enter Tryz.func3, Tryz.ntmps3
  go_wp2_with (fail)
  refine H0.out.mono ?_
  rintro e w1 ⟨rfl, hb1⟩
  have B1 := Lib.hid hb1
  clear hb1
  go_wp2_with (fail)
  refine (renamed_any p1 n1 c1 old new l1 w1 HH.out.1 HH.out.2.2.1 (HH.out.2.2.2.2.2.2.1.keep B1.out) HH.out.2.2.2.2.2.2.2.2).mono ?_
  rintro e w2 ⟨v, rfl, hown, hb2⟩
  obtain ⟨p3, c3, rfl, hr3⟩ := rd_of_owns hown (by rw [List.length_map]; exact HH.out.1)
  have R3 := Lib.hid hr3
  have B2 : Hid (Below W.heap.size W w2) := B1.out.trans (hb2.mono B1.out.size)
  clear hown hb2 hr3
  go_wp2_with (fail)
  refine (alike_slices p1 p2 c1 c2 n1 n2 l1 l2 w2 HH.out.1 HH.out.2.1 HH.out.2.2.2.2.1 HH.out.2.2.2.2.2.1 (HH.out.2.2.2.2.2.2.1.keep B2.out) (HH.out.2.2.2.2.2.2.2.1.keep B2.out)).mono ?_
  rintro e w3 ⟨rfl, hb3⟩
  have B3 : Hid (Below W.heap.size W w3) := B2.out.trans (hb3.mono B2.out.size)
  have R3' : Hid (Rd w3 p3 (l1.map (Tk.ren · old new))) := R3.out.keep hb3
  clear hb3 R3
  go_wp2_with (fail)
  refine (renamed_ref p1 n1 c1 old new l1 w3 HH.out.1 HH.out.2.2.1 (HH.out.2.2.2.2.2.2.1.keep B3.out)).mono ?_
  rintro e w4 ⟨v, rfl, hown, hb4⟩
  obtain ⟨p4, c4, rfl, hr4⟩ := rd_of_owns hown (by rw [List.length_map]; exact HH.out.1)
  have R4 := Lib.hid hr4
  have R3 : Hid (Rd w4 p3 (l1.map (Tk.ren · old new))) := R3'.out.keep hb4
  have B4 : Hid (Below W.heap.size W w4) := B3.out.trans (hb4.mono B3.out.size)
  clear hown hb4 hr4 R3'
  go_wp2_with (fail)
  refine (same_any p3 p4 c3 c4 n1 (l1.map (Tk.ren · old new)) w4 (by rw [List.length_map]; exact HH.out.1) HH.out.2.2.2.2.1 R3.out R4.out).mono ?_
  rintro e w5 ⟨rfl, hb5⟩
  have B5 : Hid (Below W.heap.size W w5) := B4.out.trans (hb5.mono B4.out.size)
  clear hb5
  go_wp2_with (fail)
  refine (alike_ref p1 p2 c1 c2 n1 n2 l1 l2 w5 HH.out.1 HH.out.2.1 HH.out.2.2.2.2.1 HH.out.2.2.2.2.2.1 (HH.out.2.2.2.2.2.2.1.keep B5.out) (HH.out.2.2.2.2.2.2.2.1.keep B5.out)).mono ?_
  rintro e w6 ⟨rfl, hb6⟩
  have B6 : Hid (Below W.heap.size W w6) := B5.out.trans (hb6.mono B5.out.size)
  clear hb6
  go_wp2
  go_ret
  exact ⟨by simp, B6.out⟩
end Go.Proofs.YtdpkipphgkphpaaGreatDoor
