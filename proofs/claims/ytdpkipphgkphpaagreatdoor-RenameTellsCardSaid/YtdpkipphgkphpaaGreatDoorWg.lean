/- Function 8 (Renamed, the plain one): a row of its own that holds the tokens renamed. Conditions: the slice lies in memory, its bytes are within the reach. -/
import Derived.Test.YtdpkipphgkphpaaGreatDoorWf
namespace Go.Proofs.YtdpkipphgkphpaaGreatDoor
open Go.RowKit

theorem take_succ {old new : ByteArray} {l : List Tk} {k : Nat} {x : Tk} (h : l[k]? = some x) : flat ((l.take (k + 1)).map (Tk.ren · old new)) = flat ((l.take k).map (Tk.ren · old new)) ++ (x.ren old new).cells := by
  rw [List.take_add_one, h, List.map_append, flat_append]
  simp [flat]
theorem ren_hit {x : Tk} {old : ByteArray} (new : ByteArray) (h : x.isName old = true) : x.ren old new = { x with t := new } := by rw [Tk.ren, if_pos h]
theorem ren_miss {x : Tk} {old : ByteArray} (new : ByteArray) (h : x.isName old = false) : x.ren old new = x := by rw [Tk.ren, if_neg (by simp [h])]

set_option maxRecDepth 100000 in
set_option maxHeartbeats 800000 in
theorem renamed_ref (p : Option Addr) (n c : Nat) (old new : ByteArray) (l : List Tk) (w : World) (hl : l.length = n) (hn : n * 56 ≤ 140737488351232) (h1 : Rd w p l) :
    Calls Tryz.prog 8 #[.slice p n c, .string old, .string new] w fun e w' => ∃ v, e = .returned v ∧ w'.ownsRow w.heap.size 39 6 v n (flat (l.map (Tk.ren · old new))) ∧ Below w.heap.size w w' := by
  have HL := Lib.hid hl
  have H1 := Lib.hid h1
  have HN := Lib.hid hn
  have hn' : n ≤ 140737488351232 := by omega
  clear hl h1 hn
  go_enter Tryz.func8, Tryz.ntmps8
  go_wp2
  go_loopw [7, 8] (fun o v wr => ∃ k : Nat, k ≤ n ∧ v = .int .i64 k ∧ Below w.heap.size w wr ∧ wr.ownsRow w.heap.size 39 6 o k (flat ((l.take k).map (Tk.ren · old new)))) (fun _ v _ => n - (intOf v).toNat)
  case atStart => exact ⟨0, Nat.zero_le _, rfl, Below.refl _ _, by rw [List.take_zero]; exact World.ownsRow_nil _ _ _ _⟩
  case round =>
    obtain ⟨k, hk, rfl, hB, how⟩ := hrel
    have HW := Lib.hid how
    clear how
    by_cases hlt : k < n
    · obtain ⟨x, hx⟩ : ∃ x, l[k]? = some x := ⟨_, List.getElem?_eq_getElem (by rw [HL.out]; exact hlt)⟩
      obtain ⟨b1, o1, rfl, hb1, r1⟩ := H1.out k x hx
      obtain ⟨e1, e2, e3, e4, e5, e6⟩ := (r1.keep hB hb1) k x hx
      have i1 : (k : Int) < (n : Int) := by omega
      have i2 : (0 : Int) ≤ (k : Int) := by omega
      have g1 : b1 < wr.heap.size := Nat.lt_of_lt_of_le hb1 hB.size
      have HX := Lib.hid hx
      have HM : Hid (k + 1 ≤ maxLen) := by show k + 1 ≤ maxLen; unfold maxLen; omega
      have HN2 : Hid ((k + 1) * 56 ≤ 140737488355328) := by have := HN.out; show (k + 1) * 56 ≤ _; omega
      have HB : Hid (Below w.heap.size w wr) := hB
      have hsz : w.heap.size ≤ wr.heap.size := hB.size
      clear hx r1 hb1 hB
      obtain ⟨i0, hi, hz0, hz1, hz2⟩ := info_parts tok_info
      obtain ⟨xk, xt, xf, xa, xz, xb⟩ := x
      simp only at e1 e2 e3 e4 e5 e6
      by_cases hkk : xk = 1
      · subst hkk
        cases ht : (xt.toList == old.toList) with
        | true =>
          have HT := Lib.hid ht
          go_wp2_with (at_builtin; refine wpList_append_own _ rfl (.tmp 31) (.tmp 33) 22 rfl w.heap.size 39 i0 _ 6 56 toks hi hz0 hz1 hz2 rfl (by decide) _ k (flat ((l.take k).map (Tk.ren · old new))) rfl ((HW.out.alloc _).alloc _) ⟨wr.heap.size + 1, 0, none⟩ 1 1 (Tk.cells ⟨1, new, xf, xa, xz, xb⟩) rfl rfl (by intro j u hj; rcases j with _|_|_|_|_|_|j <;> simp [Tk.cells] at hj <;> subst hj <;> simp [Addr.add]) (fun u hu => flat_one (l := [⟨1, new, xf, xa, xz, xb⟩]) (by simpa [flat] using hu)) HM.out HN2.out (by simp; omega) ?_; intro v' w1 hown hgrow _)
          have hr := ren_hit (x := ⟨1, xt, xf, xa, xz, xb⟩) (old := old) new (by simp only [Tk.isName, HT.out]; rfl)
          have hb := ((HB.out.alloc hsz _).alloc (by simp; omega) _).grown hgrow (by simp; omega) fun j hj => (HW.out.lt j hj).1
          exact ⟨⟨k + 1, by omega, by go_num, hb, by rw [take_succ HX.out, hr]; exact hown⟩, by simp [intOf]; omega⟩
        | false =>
          have HT := Lib.hid ht
          go_wp2_with (at_builtin; refine wpList_append_own _ rfl (.tmp 31) (.tmp 33) 22 rfl w.heap.size 39 i0 _ 6 56 toks hi hz0 hz1 hz2 rfl (by decide) _ k (flat ((l.take k).map (Tk.ren · old new))) rfl ((HW.out.alloc _).alloc _) ⟨wr.heap.size + 1, 0, none⟩ 1 1 (Tk.cells ⟨1, xt, xf, xa, xz, xb⟩) rfl rfl (by intro j u hj; rcases j with _|_|_|_|_|_|j <;> simp [Tk.cells] at hj <;> subst hj <;> simp [Addr.add]) (fun u hu => flat_one (l := [⟨1, xt, xf, xa, xz, xb⟩]) (by simpa [flat] using hu)) HM.out HN2.out (by simp; omega) ?_; intro v' w1 hown hgrow _)
          have hr := ren_miss (x := ⟨1, xt, xf, xa, xz, xb⟩) (old := old) new (by simp only [Tk.isName, HT.out]; rfl)
          have hb := ((HB.out.alloc hsz _).alloc (by simp; omega) _).grown hgrow (by simp; omega) fun j hj => (HW.out.lt j hj).1
          exact ⟨⟨k + 1, by omega, by go_num, hb, by rw [take_succ HX.out, hr]; exact hown⟩, by simp [intOf]; omega⟩
      · have HK := Lib.hid hkk
        go_wp2_with (at_builtin; refine wpList_append_own _ rfl (.tmp 31) (.tmp 33) 22 rfl w.heap.size 39 i0 _ 6 56 toks hi hz0 hz1 hz2 rfl (by decide) _ k (flat ((l.take k).map (Tk.ren · old new))) rfl ((HW.out.alloc _).alloc _) ⟨wr.heap.size + 1, 0, none⟩ 1 1 (Tk.cells ⟨xk, xt, xf, xa, xz, xb⟩) rfl rfl (by intro j u hj; rcases j with _|_|_|_|_|_|j <;> simp [Tk.cells] at hj <;> subst hj <;> simp [Addr.add]) (fun u hu => flat_one (l := [⟨xk, xt, xf, xa, xz, xb⟩]) (by simpa [flat] using hu)) HM.out HN2.out (by simp; omega) ?_; intro v' w1 hown hgrow _)
        have hr := ren_miss (x := ⟨xk, xt, xf, xa, xz, xb⟩) (old := old) new (by simp [Tk.isName, HK.out])
        have hb := ((HB.out.alloc hsz _).alloc (by simp; omega) _).grown hgrow (by simp; omega) fun j hj => (HW.out.lt j hj).1
        exact ⟨⟨k + 1, by omega, by go_num, hb, by rw [take_succ HX.out, hr]; exact hown⟩, by simp [intOf]; omega⟩
    · go_wp2
      go_ret
      have hkn : k = n := by omega
      subst hkn
      exact ⟨_, rfl, by have := HW.out; rwa [List.take_of_length_le (by rw [HL.out]; exact Nat.le_refl _)] at this, hB⟩
end Go.Proofs.YtdpkipphgkphpaaGreatDoor
