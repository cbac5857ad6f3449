/- What the walk gives for every argument that is read. Conditions: the listed tables lie as the row says, the world is shaped, what is read is within the reach. -/
import Derived.Test.YtdpkipphgkphpaaGreatDoorWh
import Derived.Test.YtdpkipphgkphpaaGreatDoorOp
import Derived.Test.YtdpkipphgkphpaaGreatDoorWi
import Derived.Test.YtdpkipphgkphpaaGreatDoorTie
import Derived.Test.YtdpkipphgkphpaaGreatDoorCards
import Derived.SizedLaws
import Derived.Carry
import Derived.JoinedCond
namespace Go.Proofs.YtdpkipphgkphpaaGreatDoor
open Go.ChangeShapes Go.WideShapes Go.ChangeAt Go.RowKit Go.Deep

theorem own : ownKnob Tryz.prog.godebug = none := by kernel_rfl
theorem laidOut : laidOutB Tryz.prog = true := by kernel_rfl
theorem readable22 : Tryz.prog.readableRec 22 = true := by kernel_rfl
theorem row22 : Nat.blt 22 Tryz.prog.types.size = true := by kernel_rfl
theorem readable9 : Tryz.prog.readableRec 9 = true := by kernel_rfl
theorem row9 : Nat.blt 9 Tryz.prog.types.size = true := by kernel_rfl

/-- What an opened slice gives the walk. -/
theorem toks_of {H : Type} {enc : TypeId × Value → H} {W : World} {base : Nat} {sp : Nat → Bool} {held : Bool} {v : Value} {d : DataW H} {ps : List MemPlace} (hv : ∃ p n c, v = .slice p n c) (h : DataW.Trod enc Tryz.prog W base sp held 22 v d ps)
    (hsz : ∀ es rs : List (DataW H), d = .slice es rs → (es.length + rs.length) * Tryz.prog.bytesOf 39 ≤ reachBytes) :
    ∃ (p : Option Addr) (n c : Nat) (l : List Tk), v = .slice p n c ∧ l.length = n ∧ Rd W p l ∧ (p = none → n = 0 ∧ c = 0) ∧ n * 56 ≤ 140737488351232 := by
  rcases open_toks hv h with ⟨rfl, _⟩ | ⟨a, n, c, l, es, rs, rfl, h1, h2, h3, h4⟩
  · exact ⟨none, 0, 0, [], rfl, rfl, (fun i x hx => by simp at hx), (fun _ => ⟨rfl, rfl⟩), by omega⟩
  · refine ⟨some a, n, c, l, rfl, h1, h2, (fun e => by cases e), ?_⟩
    have := hsz es rs h3
    rw [bytes39, h4] at this
    unfold reachBytes at this
    have h5 : n * 56 ≤ (n + rs.length) * 56 := Nat.mul_le_mul_right _ (Nat.le_add_right _ _)
    omega

set_option maxRecDepth 100000 in
theorem contract (H : Type) (enc : TypeId × Value → H) (W : World) (base : Nat) (args : Array Value) (ds gs : List (DataW H)) (before : List MemPlace)
    (hval : ∀ (j : Nat) t v, Tryz.f3.params[j]? = some t → args[j]? = some v → Value.okWide Tryz.prog W .any base t v)
    (hW : DataW.Whole enc Tryz.prog Tryz.f3.params.toList Rows.renameTellsSpec.vars false W args.toList ds gs before)
    (hsz : (DataW.weightsEach Tryz.prog (Tryz.f3.params.toList ++ (OpenSpec.ofChange Rows.renameTellsSpec).bare.plain.varTypes Tryz.prog) (ds ++ gs)).all (· ≤ reachBytes) = true)
    (hL : laidMetH Tryz.prog Rows.renameTellsRow.laid W) (hsh : W.ShapedOpen Tryz.prog) :
    Calls Tryz.prog 3 args W fun e W' => ∃ v, e = .returned v ∧ Rows.renameTellsSpec.post enc Tryz.prog Tryz.f3 false true false false W args v W' := by
  have hW' := hW
  obtain ⟨p, q, hA0, hV, rfl, hfz, hnd⟩ := hW
  have hA : DataW.TrodAll enc Tryz.prog W 0 (fun _ => true) true Tryz.f3.params.toList args.toList ds p := hA0
  rw [Tryz.params3] at hA hval hsz
  obtain ⟨v0, vs0, d0, ds0, p0, q0, hargs, rfl, rfl, h0, r0⟩ := trodAll_cons hA
  obtain ⟨v1, vs1, d1, ds1, p1, q1, rfl, rfl, rfl, h1, r1⟩ := trodAll_cons r0
  obtain ⟨v2, vs2, d2, ds2, p2, q2, rfl, rfl, rfl, h2, r2⟩ := trodAll_cons r1
  obtain ⟨v3, vs3, d3, ds3, p3, q3, rfl, rfl, rfl, h3, r3⟩ := trodAll_cons r2
  obtain ⟨rfl, rfl, rfl⟩ := trodAll_nil r3
  obtain rfl : args = #[v0, v1, v2, v3] := by cases args; simp_all
  obtain ⟨rfl, rfl⟩ := trodVars_none hV
  simp only [List.append_nil] at hW' hsz
  have hlt : ∀ x ∈ p0 ++ (p1 ++ (p2 ++ p3)), x.block < W.heap.size := fun x hx => by simpa using hW'.lt x hx
  obtain ⟨s1, n1, c1, l1, e1, hl1, hr1, hp1, hn1⟩ := toks_of (okWide_slice Tryz.underlying22 (hval 0 22 v0 rfl rfl)) h0 fun es rs e => by subst e; exact sized_slice hsz (j := 0) (t := 22) (e := 39) rfl rfl Tryz.underlying22
  obtain ⟨s2, n2, c2, l2, e2, hl2, hr2, hp2, hn2⟩ := toks_of (okWide_slice Tryz.underlying22 (hval 1 22 v1 rfl rfl)) h1 fun es rs e => by subst e; exact sized_slice hsz (j := 1) (t := 22) (e := 39) rfl rfl Tryz.underlying22
  obtain ⟨old, e3⟩ := okWide_string Tryz.underlying9 (hval 2 9 v2 rfl rfl)
  obtain ⟨new, e4⟩ := okWide_string Tryz.underlying9 (hval 3 9 v3 rfl rfl)
  have walk : Calls Tryz.prog 3 #[v0, v1, v2, v3] W fun e w' => e = .returned (.bool true) ∧ Below W.heap.size W w' := by
    subst e1 e2 e3 e4
    exact tells_any s1 s2 n1 c1 n2 c2 old new l1 l2 W hL hsh hl1 hl2 hn1 hn2 hr1 hr2 hp1
  refine walk.mono fun e W' ⟨he, hb⟩ => ?_
  subst he
  have t0 := Below.trod laidOut readable22 (Nat.le_of_ble_eq_true row22) h0 hb fun x hx => hlt x (by simp [hx])
  have t1 := Below.trod laidOut readable22 (Nat.le_of_ble_eq_true row22) h1 hb fun x hx => hlt x (by simp [hx])
  have t2 := Below.trod laidOut readable9 (Nat.le_of_ble_eq_true row9) h2 hb fun x hx => hlt x (by simp [hx])
  have t3 := Below.trod laidOut readable9 (Nat.le_of_ble_eq_true row9) h3 hb fun x hx => hlt x (by simp [hx])
  have e1 : (Rows.renameTellsSpec.fn H ([d0, d1, d2, d3] ++ [])).results = [.lit (.bool true)] := by simp [Rows.renameTellsSpec]
  have e2 : (Rows.renameTellsSpec.fn H ([d0, d1, d2, d3] ++ [])).args = [d0, d1, d2, d3] := by simp [Rows.renameTellsSpec]
  have e3 : (Rows.renameTellsSpec.fn H ([d0, d1, d2, d3] ++ [])).vars = [] := by simp [Rows.renameTellsSpec]
  refine ⟨_, rfl, [d0, d1, d2, d3], [], p0 ++ (p1 ++ (p2 ++ p3)), [], p0 ++ (p1 ++ (p2 ++ (p3 ++ []))), [], hW', ?_, ?_, ?_, hb.frame _, fun h => by cases h⟩
  · rw [e1]
    exact trodAll_cons_mk (shut_bool Tryz.underlying4 true) trodAll_mk0
  · rw [e2, Tryz.params3]
    exact trodAll_cons_mk t0 (trodAll_cons_mk t1 (trodAll_cons_mk t2 (trodAll_cons_mk t3 trodAll_mk0)))
  · rw [e3]
    rfl
end Go.Proofs.YtdpkipphgkphpaaGreatDoor
