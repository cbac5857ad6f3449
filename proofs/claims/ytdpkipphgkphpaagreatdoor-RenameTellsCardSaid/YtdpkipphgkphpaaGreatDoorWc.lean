/- Function 9 (Alike, the plain one): it answers whether two lists are alike. Conditions: both slices lie in memory, their lengths are within the reach. -/
import Derived.Test.YtdpkipphgkphpaaGreatDoorWb
namespace Go.Proofs.YtdpkipphgkphpaaGreatDoor
open Go.RowKit

/-- All alike. -/
def likes : List Tk → List Tk → Bool
  | [], [] => true
  | x :: l, y :: m => x.like y && likes l m
  | _, _ => false
theorem likes_len : ∀ {l m : List Tk}, l.length ≠ m.length → likes l m = false
  | [], [], h => absurd rfl h
  | _ :: _, [], _ => rfl
  | [], _ :: _, _ => rfl
  | x :: l, y :: m, h => by
    simp only [likes, likes_len (l := l) (m := m) (by simpa using h), Bool.and_false]
theorem likes_no : ∀ {l m : List Tk} {k : Nat} {x y : Tk}, l[k]? = some x → m[k]? = some y → x.like y = false → likes l m = false
  | [], _, k, x, y, h, _, _ => by simp at h
  | _ :: _, [], k, x, y, _, h, _ => by simp at h
  | u :: l, v :: m, k, x, y, h1, h2, h => by
    cases k with
    | zero =>
      simp at h1 h2
      subst h1 h2
      simp only [likes, h, Bool.false_and]
    | succ k => simp only [likes, likes_no (l := l) (m := m) (by simpa using h1) (by simpa using h2) h, Bool.and_false]
theorem likes_all : ∀ {l m : List Tk}, l.length = m.length → (∀ (k : Nat) (x y : Tk), l[k]? = some x → m[k]? = some y → x.like y = true) → likes l m = true
  | [], [], _, _ => rfl
  | _ :: _, [], h, _ => by simp at h
  | [], _ :: _, h, _ => by simp at h
  | u :: l, v :: m, h, hh => by
    simp only [likes, hh 0 u v rfl rfl, Bool.true_and]
    exact likes_all (by simpa using h) fun k x y h1 h2 => hh (k + 1) x y (by simpa using h1) (by simpa using h2)

set_option maxHeartbeats 800000 in
theorem alike_ref (p1 p2 : Option Addr) (c1 c2 n n2 : Nat) (l m : List Tk) (w : World) (hl : l.length = n) (hm : m.length = n2) (hn : n ≤ 140737488351232) (hn2 : n2 ≤ 140737488351232) (h1 : Rd w p1 l) (h2 : Rd w p2 m) :
    Calls Tryz.prog 9 #[.slice p1 n c1, .slice p2 n2 c2] w fun e w' => e = .returned (.bool (likes l m)) ∧ Below w.heap.size w w' := by
  have HL := Lib.hid hl
  have HM := Lib.hid hm
  have H1 := Lib.hid h1
  have H2 := Lib.hid h2
  clear hl h1 h2 hm
  by_cases hne : n = n2
  rotate_left
  · have hd : ((n : Int) != (n2 : Int)) = true := by simp; omega
    go_enter Tryz.func9, Tryz.ntmps9
    go_wp2
    go_ret
    exact ⟨by rw [likes_len (by rw [HL.out, HM.out]; exact hne)]; rfl, Below.refl _ _⟩
  subst hne
  go_enter Tryz.func9, Tryz.ntmps9
  go_wp2
  go_loopw [5] (fun v wr => ∃ k : Nat, k ≤ n ∧ v = .int .i64 k ∧ Below w.heap.size w wr ∧ ∀ j, j < k → ∀ (x y : Tk), l[j]? = some x → m[j]? = some y → x.like y = true) (fun v _ => n - (intOf v).toNat)
  case atStart => exact ⟨0, Nat.zero_le _, rfl, Below.refl _ _, fun j hj => absurd hj (Nat.not_lt_zero _)⟩
  case round =>
    obtain ⟨k, hk, rfl, hB, hall⟩ := hrel
    have HA := Lib.hid hall
    clear hall
    go_wp2
    · have hlt : k < n := by assumption
      obtain ⟨x, hx⟩ : ∃ x, l[k]? = some x := ⟨_, List.getElem?_eq_getElem (by rw [HL.out]; exact hlt)⟩
      obtain ⟨y, hy⟩ : ∃ y, m[k]? = some y := ⟨_, List.getElem?_eq_getElem (by rw [HM.out]; exact hlt)⟩
      obtain ⟨b1, o1, rfl, hb1, r1⟩ := H1.out k x hx
      obtain ⟨b2, o2, rfl, hb2, r2⟩ := H2.out k y hy
      obtain ⟨e1, e2, e3, e4, e5, e6⟩ := (r1.keep hB hb1) k x hx
      obtain ⟨f1, f2, f3, f4, f5, f6⟩ := (r2.keep hB hb2) k y hy
      have i1 : (k : Int) < (n : Int) := by omega
      have i2 : (0 : Int) ≤ (k : Int) := by omega
      have HX := Lib.hid hx
      have HY := Lib.hid hy
      clear hx r1 r2 hy
      cases hk : (x.k == y.k) with
      | false =>
        have hd : (x.k != y.k) = true := by rw [bne, hk]; rfl
        have HF : Hid (x.like y = false) := by show x.like y = false; simp [Tk.like, hk]
        go_quiet (fail)
        go_wp2
        go_ret
        exact ⟨by rw [likes_no HX.out HY.out HF.out]; rfl, below_drewN hB _⟩
      | true =>
        have hd : (x.k != y.k) = false := by rw [bne, hk]; rfl
        cases ht : (x.t.toList == y.t.toList) with
        | false =>
          have hd2 : (x.t.toList != y.t.toList) = true := by rw [bne, ht]; rfl
          have HF : Hid (x.like y = false) := by show x.like y = false; simp [Tk.like, ht]
          go_quiet (fail)
          go_wp2
          go_ret
          exact ⟨by rw [likes_no HX.out HY.out HF.out]; rfl, below_drewN hB _⟩
        | true =>
          have hd2 : (x.t.toList != y.t.toList) = false := by rw [bne, ht]; rfl
          cases hb : (x.b == y.b) with
          | false =>
            have hd3 : (x.b != y.b) = true := by rw [bne, hb]; rfl
            have HF : Hid (x.like y = false) := by show x.like y = false; simp [Tk.like, hb]
            go_quiet (fail)
            go_wp2
            go_ret
            exact ⟨by rw [likes_no HX.out HY.out HF.out]; rfl, below_drewN hB _⟩
          | true =>
            have hd3 : (x.b != y.b) = false := by rw [bne, hb]; rfl
            have HF : Hid (x.like y = true) := by show x.like y = true; simp only [Tk.like, hk, ht, hb, Bool.and_self]
            go_quiet (fail)
            go_wp2
            refine ⟨⟨k + 1, by omega, by go_num, below_drewN hB _, fun j hj x' y' h1 h2 => ?_⟩, by simp [intOf]; omega⟩
            by_cases hjk : j < k
            · exact HA.out j hjk x' y' h1 h2
            · obtain rfl : j = k := by omega
              obtain rfl := Option.some.inj (h1.symm.trans HX.out)
              obtain rfl := Option.some.inj (h2.symm.trans HY.out)
              exact HF.out
    · go_ret
      have hge : ¬ k < n := by assumption
      exact ⟨by rw [likes_all (by rw [HL.out, HM.out]) fun j x y h1 h2 => HA.out j (by have := (List.getElem?_eq_some_iff.1 h1).1; have := HL.out; omega) x y h1 h2]; rfl, hB⟩
end Go.Proofs.YtdpkipphgkphpaaGreatDoor
