/- Functions 14 and 6 (Alike, by EqualFunc): they answer whether two lists are alike. Conditions: both slices lie in memory, their lengths are within the reach. -/
import Derived.Test.YtdpkipphgkphpaaGreatDoorWc
namespace Go.Proofs.YtdpkipphgkphpaaGreatDoor
open Go.RowKit

set_option maxHeartbeats 800000 in
theorem alike_any (p1 p2 : Option Addr) (c1 c2 n n2 : Nat) (l m : List Tk) (w : World) (hl : l.length = n) (hm : m.length = n2) (hn : n ≤ 140737488351232) (hn2 : n2 ≤ 140737488351232) (h1 : Rd w p1 l) (h2 : Rd w p2 m) :
    Calls Tryz.prog 14 #[.slice p1 n c1, .slice p2 n2 c2, .func (.func 15) #[] #[]] w fun e w' => e = .returned (.bool (likes l m)) ∧ Below w.heap.size w w' := by
  have HL := Lib.hid hl
  have HM := Lib.hid hm
  have H1 := Lib.hid h1
  have H2 := Lib.hid h2
  clear hl h1 h2 hm
  by_cases hne : n = n2
  rotate_left
  · have hd : ((n : Int) != (n2 : Int)) = true := by simp; omega
    go_enter Tryz.func14, Tryz.ntmps14
    go_wp2
    go_ret
    exact ⟨by rw [likes_len (by rw [HL.out, HM.out]; exact hne)]; rfl, Below.refl _ _⟩
  subst hne
  go_enter Tryz.func14, Tryz.ntmps14
  go_wp2
  go_loopw [17] (fun v wr => ∃ k : Nat, k ≤ n ∧ v = .int .i64 k ∧ Below w.heap.size w wr ∧ ∀ j, j < k → ∀ (x y : Tk), l[j]? = some x → m[j]? = some y → x.like y = true) (fun v _ => n - (intOf v).toNat)
  case atStart => exact ⟨0, Nat.zero_le _, rfl, Below.refl _ _, fun j hj => absurd hj (Nat.not_lt_zero _)⟩
  case round =>
    obtain ⟨k, hk, rfl, hB, hall⟩ := hrel
    have HA := Lib.hid hall
    clear hall
    by_cases hlt : k < n
    · obtain ⟨x, hx⟩ : ∃ x, l[k]? = some x := ⟨_, List.getElem?_eq_getElem (by rw [HL.out]; exact hlt)⟩
      obtain ⟨y, hy⟩ : ∃ y, m[k]? = some y := ⟨_, List.getElem?_eq_getElem (by rw [HM.out]; exact hlt)⟩
      obtain ⟨b1, o1, rfl, hb1, r1⟩ := H1.out k x hx
      obtain ⟨b2, o2, rfl, hb2, r2⟩ := H2.out k y hy
      obtain ⟨e1, e2, e3, e4, e5, e6⟩ := (r1.keep hB hb1) k x hx
      obtain ⟨f1, f2, f3, f4, f5, f6⟩ := (r2.keep hB hb2) k y hy
      have i1 : (k : Int) < (n : Int) := by omega
      have i2 : (0 : Int) ≤ (k : Int) := by omega
      have g1 : b1 < wr.heap.size := Nat.lt_of_lt_of_le hb1 hB.size
      have g2 : b2 < wr.heap.size := Nat.lt_of_lt_of_le hb2 hB.size
      have HX := Lib.hid hx
      have HY := Lib.hid hy
      clear hx r1 r2 hy hb1 hb2
      go_wp2_with (fail)
      refine (like_any x y _).mono ?_
      rintro e w1 ⟨rfl, hb⟩
      have hB1 : Below w.heap.size w w1 := hB.trans ((two wr _ _).trans (hb.mono (by simp; omega)) |>.mono hB.size)
      clear hb
      cases hk : x.like y with
      | false =>
        have HF := Lib.hid hk
        clear hk
        go_wp2
        go_ret
        exact ⟨by rw [likes_no HX.out HY.out HF.out]; rfl, hB1⟩
      | true =>
        have HF := Lib.hid hk
        clear hk
        go_wp2
        go_roundw
        case rel =>
          refine ⟨k + 1, by omega, by go_num, hB1, fun j hj x' y' h1 h2 => ?_⟩
          by_cases hjk : j < k
          · exact HA.out j hjk x' y' h1 h2
          · obtain rfl : j = k := by omega
            obtain rfl := Option.some.inj (h1.symm.trans HX.out)
            obtain rfl := Option.some.inj (h2.symm.trans HY.out)
            exact HF.out
        case measure => simp [intOf]; omega
    · go_wp2
      go_ret
      exact ⟨by rw [likes_all (by rw [HL.out, HM.out]) fun j x y h1 h2 => HA.out j (by have := (List.getElem?_eq_some_iff.1 h1).1; have := HL.out; omega) x y h1 h2]; rfl, hB⟩

theorem alike_slices (p1 p2 : Option Addr) (c1 c2 n n2 : Nat) (l m : List Tk) (w : World) (hl : l.length = n) (hm : m.length = n2) (hn : n ≤ 140737488351232) (hn2 : n2 ≤ 140737488351232) (h1 : Rd w p1 l) (h2 : Rd w p2 m) :
    Calls Tryz.prog 6 #[.slice p1 n c1, .slice p2 n2 c2] w fun e w' => e = .returned (.bool (likes l m)) ∧ Below w.heap.size w w' := by
  have H := Lib.hid (alike_any p1 p2 c1 c2 n n2 l m w hl hm hn hn2 h1 h2)
  clear hl hm h1 h2
  go_enter Tryz.func6, Tryz.ntmps6
  go_wp2_with (fail)
  refine H.out.mono ?_
  rintro e w1 ⟨rfl, hb⟩
  go_wp2
  go_ret
  exact ⟨rfl, hb⟩
end Go.Proofs.YtdpkipphgkphpaaGreatDoor
