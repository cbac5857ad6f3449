/- The abstract machine: each of its steps is a run of the model's; a call that it brings to its end is a call of the model's. No condition. -/
import Derived.Test.YtdpkipphgkphpaaGreatDoorAc
import Derived.Lib.LaidTab
import Derived.LaidSub
set_option linter.unusedVariables false
set_option linter.unusedSimpArgs false
set_option linter.unusedSectionVars false
set_option linter.constructorNameAsVariable false
/- The abstract machine: regions whose order is drawn, whole. -/
namespace Go.Absm
noncomputable section
set_option linter.unusedVariables false
set_option linter.unusedSectionVars false

section
variable {P : Program} {tb : Prg} {dm : T Nat} {K : CK} {dead : Nat → Bool} {nt : Nat} {W0 w : World} {ρ ρ' : Rho} {lo nx nx' : Nat} {h : AHeap} {ops : Array Oper} {env env' : T AV} {tmps : Array Value} {evs evd A B : List Nat}
variable {fn : FuncId} {defers : List Deferred} {kind : CallKind} {rd : Option Nat} {cs : List Frame} {l : List Item}

/-- Operations that were reckoned ahead run, up to one at which we stop. -/
theorem phase_run (hlt : edgesLt ops.toList 0 = true) (hnd : noDup (ops.toList.map (·.dst)) = true) {chk : List (Nat × AOper)} (hck : ckOk (dcOf P dead nt ops) evs evd chk = true) (hc : chkOps chk env h = true) {Q stop : List Nat}
    (cover : ∀ x, x < ops.size → (∃ q ∈ Q, x = q ∨ ahead (befs ops.toList []) x q = true) ∨ x ∈ stop ∨ (∃ s ∈ stop, ahead (befs ops.toList []) s x = true) ∨ inE x chk = true) :
    ∀ (B A : List Nat) (ρ : Rho) (w : World) (tmps : Array Value), Inv P K W0 ρ h w → DrInv ρ lo h.next.toNat dead ops env tmps evs evd A B → tmps.size = nt → (∀ q ∈ Q, q ∈ A) → (∀ s ∈ stop, s ∈ B) →
      ∃ ρ' A' B' tmps' w', Steps P (lone (mkF fn tmps (.inRegion ops B :: l) defers kind rd) cs w) (lone (mkF fn tmps' (.inRegion ops B' :: l) defers kind rd) cs w') ∧ Inv P K W0 ρ' h w' ∧
        DrInv ρ' lo h.next.toNat dead ops env tmps' evs evd A' B' ∧ tmps'.size = nt ∧ ρ.le ρ' ∧ (∀ id : Pos, id.toNat < lo → ρ' id = ρ id) ∧ (∀ a ∈ A, a ∈ A') ∧ (∀ s ∈ stop, s ∈ B') ∧ (B' = [] ∨ ∃ s B'', s ∈ stop ∧ B' = s :: B'')
  | [], A, ρ, w, tmps, k, dr, hsz, hQ, hst => ⟨ρ, A, [], tmps, w, Steps.refl _ _, k, dr, hsz, Rho.le_refl _, fun _ _ => rfl, fun _ ha => ha, hst, .inl rfl⟩
  | x :: B, A, ρ, w, tmps, k, dr, hsz, hQ, hst => by
    by_cases hx : x ∈ stop
    · exact ⟨ρ, A, x :: B, tmps, w, Steps.refl _ _, k, dr, hsz, Rho.le_refl _, fun _ _ => rfl, fun _ ha => ha, hst, .inr ⟨x, B, hx, rfl⟩⟩
    · have hn := notMem_of dr.sched
      have hxlt : x < ops.size := dr.sched.lt x (by simp)
      have hin : inE x chk = true := by
        rcases cover x hxlt with ⟨q, hq, rfl | hah⟩ | h1 | ⟨s, hs, hah⟩ | h1
        · exact absurd (hQ _ hq) hn.1
        · exfalso
          obtain ⟨A1, A2, hA⟩ := List.append_of_mem (hQ q hq)
          have := ahead_mem hlt dr.sched q x hah A1 (A2 ++ x :: B) (by rw [hA]; simp)
          exact hn.1 (by rw [hA]; exact List.mem_append_left _ this)
        · exact absurd h1 hx
        · exfalso
          have hsA := ahead_mem hlt dr.sched x s hah A B rfl
          have hnd2 := dr.sched.nodup
          rw [List.nodup_append] at hnd2
          exact hnd2.2.2 s hsA s (hst s hs) rfl
        · exact h1
      obtain ⟨a, ha⟩ := inE_iff.1 hin
      obtain ⟨h1, h2, h3⟩ := ckOk_mem hck _ ha
      obtain ⟨ρ1, t1, w1, g1, g2, g3, g4, g5, g6⟩ := early_step (l := l) (fn := fn) (defers := defers) (kind := kind) (rd := rd) (cs := cs) k hlt hnd dr hsz h1 h2 h3 (chkOps_mem hc _ ha)
      obtain ⟨ρ2, A2, B2, t2, w2, k1, k2, k3, k4, k5, k6, k7, k8, k9⟩ := phase_run hlt hnd hck hc cover B (A ++ [x]) ρ1 w1 t1 g2 g3 g4 (fun q hq => List.mem_append_left _ (hQ q hq)) (fun s hs => by
        rcases List.mem_cons.1 (hst s hs) with rfl | h
        · exact absurd hs hx
        · exact h)
      exact ⟨ρ2, A2, B2, t2, w2, .head g1 k1, k2, k3, k4, Rho.le_trans g5 k5, fun id hid => (k6 id hid).trans (g6 id hid), fun a ha => k7 a (List.mem_append_left _ ha), k8, k9⟩

theorem entD_spec {x : Nat} {a : AOper} (he : entD (dcOf P dead nt ops) (x, a) = true) : ∃ o, ops[x]? = some o ∧ dstD dead nt o.dst a.dst = true := by
  unfold entD at he
  split at he
  · rename_i o ho
    exact ⟨o, by simpa [dcOf] using ho, he⟩
  · cases he

/-- What the evaluation ahead leaves. -/
theorem ev_run (hnd : noDup (ops.toList.map (·.dst)) = true) {prev : Option Nat} (hlt : edgesLt ops.toList 0 = true) (hp : EndsIn A prev) :
    ∀ (l : List (Nat × AOper)) (env : T AV) (h : AHeap) (evs evd : List Nat), evOk (dcOf P dead nt ops) prev l evd = true → Inv P K W0 ρ h w → DrInv ρ lo h.next.toNat dead ops env tmps evs evd A B → lo ≤ h.next.toNat →
      ∀ (next : T AV → AHeap → RD), evOps next l env h = .no ∨ ∃ env' h', evOps next l env h = next env' h' ∧ Inv P K W0 ρ h' w ∧ DrInv ρ lo h'.next.toNat dead ops env' tmps (evNs l evs) (evAdd l evd) A B ∧ h.next.toNat ≤ h'.next.toNat
  | [], env, h, evs, evd, _, k, dr, _, next => .inr ⟨env, h, rfl, k, dr, Nat.le_refl _⟩
  | (i, a) :: l, env, h, evs, evd, he, k, dr, hlo, next => by
    simp only [evOk, Bool.and_eq_true, Bool.not_eq_true'] at he
    obtain ⟨⟨⟨⟨⟨h1, h2⟩, h3⟩, h4⟩, h5⟩, h6⟩ := he
    obtain ⟨o, ho, g1⟩ := entD_spec h1
    obtain ⟨p, hp'⟩ := Option.isSome_iff_exists.1 h3
    rw [hp'] at g1
    obtain ⟨hod, hdd, hdn⟩ := dstD_some g1
    have hdi : dstAt ops i = some p.toNat := by simp [dstAt, ho, hod]
    have hilt : i < ops.size := (Array.getElem?_eq_some_iff.1 ho).1
    have hev5 : i ∉ evd := fun hm => by rw [inN_iff.2 hm] at h5; cases h5
    have hiB : i ∈ B := by
      have hiL := dr.sched.all i hilt
      rcases List.mem_append.1 hiL with hA | hB
      · exfalso
        cases prev with
        | none => have : A = [] := hp; rw [this] at hA; cases hA
        | some q =>
          obtain ⟨A', rfl⟩ := hp
          have hs := dr.sched
          obtain ⟨A1, A2, hA'⟩ := List.append_of_mem hA
          have hq := ahead_mem hlt hs i q h4 A1 (A2 ++ B) (by rw [hA']; simp)
          have hnd2 := hs.nodup
          rw [List.nodup_append] at hnd2
          have hnd3 := hnd2.1
          rcases List.eq_nil_or_concat A2 with rfl | ⟨A3, b, rfl⟩
          · have := List.append_inj' hA' rfl
            have e2 : q = i := by simpa using this.2
            subst e2
            rw [hA', List.nodup_append] at hnd3
            exact hnd3.2.2 q hq q (List.mem_cons_self ..) rfl
          · rw [List.concat_eq_append, ← List.cons_append, ← List.append_assoc] at hA'
            have := List.append_inj' hA' rfl
            have e2 : q = b := by simpa using this.2
            subst e2
            rw [this.1, List.nodup_append] at hnd3
            exact hnd3.2.2 q (List.mem_append_left _ hq) q (List.mem_singleton.2 rfl) rfl
      · exact hB
    have other : ∀ j ∈ B, i ≠ j → ∀ q : Pos, dstAt ops j = some q.toNat → q ≠ p := by
      intro j hj hij q hq he
      subst he
      exact hij (dst_uniq hnd hdi hq)
    -- behind a value
    have go : ∀ (v : AV) (h' : AHeap), Inv P K W0 ρ h' w → h.next.toNat ≤ h'.next.toNat → (isFresh a.op = true → ∀ id, resId v = some id → ρ id = none ∧ h.next.toNat ≤ id.toNat ∧ id.toNat < h'.next.toNat) →
        evOps next l (putD env a.dst v) h' = .no ∨ ∃ env' h'', evOps next l (putD env a.dst v) h' = next env' h'' ∧ Inv P K W0 ρ h'' w ∧ DrInv ρ lo h''.next.toNat dead ops env' tmps (evNs ((i, a) :: l) evs) (evAdd ((i, a) :: l) evd) A B ∧ h.next.toNat ≤ h''.next.toNat := by
      intro v h' k' hn hid
      have dr' : DrInv ρ lo h'.next.toNat dead ops (putD env a.dst v) tmps (i :: evs) (bf (isFresh a.op) (i :: evd) evd) A B := by
        rw [hp']
        have hsame : ∀ q : Pos, q ≠ p → ev (.t q) [] (putD env (some p) v) = ev (.t q) [] env := by
          intro q hq
          simp only [ev, putD, T.get_set, if_neg hq]
        have hself : ev (.t p) [] (putD env (some p) v) = v := by simp [ev, putD, T.get_set, orBot]
        have hmem : ∀ j, j ∈ bf (isFresh a.op) (i :: evd) evd → (j = i ∧ isFresh a.op = true) ∨ (j ∈ evd ∧ j ≠ i) := by
          intro j hj
          cases hf : isFresh a.op with
          | true =>
            rw [hf] at hj
            rcases List.mem_cons.1 hj with rfl | hj
            · exact .inl ⟨rfl, rfl⟩
            · exact .inr ⟨hj, fun e => hev5 (e ▸ hj)⟩
          | false =>
            rw [hf] at hj
            exact .inr ⟨hj, fun e => hev5 (e ▸ hj)⟩
        refine ⟨dr.sched, fun k0 u hk hb => ?_, fun k0 hk => ?_, fun j hj hjb q hq id hid' => ?_, fun j hj j' hj' hjb hjb' hjj q q' hq hq' id id' e1 e2 => ?_⟩
        · simp only [putD, T.get_set] at hk
          split at hk
          · rename_i he'
            subst he'
            exact absurd hdi (hb i hiB (List.mem_cons_self ..))
          · exact dr.val k0 u hk fun j hj hje => hb j hj (List.mem_cons_of_mem _ hje)
        · simp only [putD, T.get_set]
          split
          · rename_i he'
            subst he'
            rw [hdd] at hk
            cases hk
          · exact dr.none k0 hk
        · rcases hmem j hj with ⟨rfl, hf⟩ | ⟨hje, hji⟩
          · have hqp : q = p := Pos.toNat_inj (Option.some.inj (hq.symm.trans hdi))
            subst hqp
            rw [hself] at hid'
            obtain ⟨r1, r2, r3⟩ := hid hf id hid'
            exact ⟨r1, Nat.le_trans hlo r2, r3⟩
          · rw [hsame q (other j hjb (Ne.symm hji) q hq)] at hid'
            obtain ⟨r1, r2, r3⟩ := dr.fresh j hje hjb q hq id hid'
            exact ⟨r1, r2, Nat.lt_of_lt_of_le r3 hn⟩
        · rcases hmem j hj with ⟨rfl, hf⟩ | ⟨hje, hji⟩
          · rcases hmem j' hj' with ⟨rfl, _⟩ | ⟨hje', hji'⟩
            · exact absurd rfl hjj
            · have hqp : q = p := Pos.toNat_inj (Option.some.inj (hq.symm.trans hdi))
              subst hqp
              rw [hself] at e1
              rw [hsame q' (other j' hjb' (Ne.symm hji') q' hq')] at e2
              have r1 := (hid hf id e1).2.1
              have r2 := (dr.fresh j' hje' hjb' q' hq' id' e2).2.2
              intro e
              subst e
              omega
          · rcases hmem j' hj' with ⟨rfl, hf⟩ | ⟨hje', hji'⟩
            · have hqp : q' = p := Pos.toNat_inj (Option.some.inj (hq'.symm.trans hdi))
              subst hqp
              rw [hself] at e2
              rw [hsame q (other j hjb (Ne.symm hji) q hq)] at e1
              have r1 := (hid hf id' e2).2.1
              have r2 := (dr.fresh j hje hjb q hq id e1).2.2
              intro e
              subst e
              omega
            · rw [hsame q (other j hjb (Ne.symm hji) q hq)] at e1
              rw [hsame q' (other j' hjb' (Ne.symm hji') q' hq')] at e2
              exact dr.apart j hje j' hje' hjb hjb' hjj q q' hq hq' id id' e1 e2
      rcases ev_run hnd hlt hp l (putD env a.dst v) h' _ _ h6 k' dr' (Nat.le_trans hlo hn) next with h0 | ⟨e', h'', r1, r2, r3, r4⟩
      · exact .inl h0
      · exact .inr ⟨e', h'', r1, r2, r3, Nat.le_trans hn r4⟩
    have hdone : ∀ v h', doneO a env h = .v v h' → Inv P K W0 ρ h' w ∧ h.next.toNat ≤ h'.next.toNat ∧ (isFresh a.op = true → ∀ id, resId v = some id → ρ id = none ∧ h.next.toNat ≤ id.toNat ∧ id.toNat < h'.next.toNat) := by
      intro v h' hr
      obtain ⟨d, g, op⟩ := a
      simp only [doneO, doneV] at hr
      simp only [early] at h2
      have lay : ∀ oo : AObj, Inv P K W0 ρ (newBlock h oo).2 w ∧ h.next.toNat ≤ (newBlock h oo).2.next.toNat ∧ (∀ id : Pos, id = h.next → ρ id = none ∧ h.next.toNat ≤ id.toNat ∧ id.toNat < (newBlock h oo).2.next.toNat) := by
        intro oo
        obtain ⟨k1, e1, e2, e3, e4⟩ := k.laid oo
        exact ⟨k1, by omega, fun id hid => by subst hid; exact ⟨e4, Nat.le_refl _, by omega⟩⟩
      split at hr
      · split at h2
        · rename_i q
          simp only [exec] at hr
          obtain ⟨_, rfl⟩ := wQ_v hr
          exact ⟨k, Nat.le_refl _, fun hf => by simp [isFresh] at hf⟩
        · rename_i ty sz cnt z
          simp only [exec] at hr
          rw [rPtr_eq, newBlock_fst] at hr
          injection hr with e1 e2
          subst e1 e2
          obtain ⟨l1, l2, l3⟩ := lay (.cells sz ty 0 cnt (putElems (reptE z cnt) .nl 0))
          refine ⟨l1, l2, fun _ id hid => ?_⟩
          simp only [resId] at hid
          injection hid with hid
          exact l3 id hid.symm
        · rename_i sz ty len z ps
          simp only [exec, wBslice] at hr
          split at hr
          · rename_i mm hf
            rw [rSl_eq, newBlock_fst] at hr
            injection hr with e1 e2
            subst e1 e2
            obtain ⟨l1, l2, l3⟩ := lay (.cells sz ty 0 len mm)
            refine ⟨l1, l2, fun _ id hid => ?_⟩
            simp only [resId] at hid
            injection hid with hid
            exact l3 id hid.symm
          · cases hr
        · cases h2
      · injection hr with e1 e2
        subst e1 e2
        exact ⟨k, Nat.le_refl _, fun _ id hid => by simp [resId] at hid⟩
      · cases hr
    show (match doneO a env h with | .v v h' => evOps next l (putD env a.dst v) h' | _ => RD.no) = .no ∨ ∃ env' h', (match doneO a env h with | .v v h' => evOps next l (putD env a.dst v) h' | _ => RD.no) = next env' h' ∧ _
    cases hr : doneO a env h with
    | v v h' =>
      obtain ⟨r1, r2, r3⟩ := hdone v h' hr
      exact go v h' r1 r2 r3
    | _ => exact .inl rfl

end
end
end Go.Absm

/- The abstract machine: regions whose order is drawn: what ends a phase; the whole. -/
namespace Go.Absm
noncomputable section
set_option linter.unusedVariables false
set_option linter.unusedSectionVars false

section
variable {P : Program} {tb : Prg} {dm : T Nat} {K : CK} {dead : Nat → Bool} {nt : Nat} {W0 w : World} {ρ ρ' : Rho} {lo nx nx' : Nat} {h : AHeap} {ops : Array Oper} {env env' : T AV} {tmps : Array Value} {evs evd A B : List Nat}
variable {fn : FuncId} {defers : List Deferred} {kind : CallKind} {rd : Option Nat} {cs : List Frame} {l : List Item}

/-- The operation that ends a phase comes to a value. -/
theorem ch_step (k : Inv P K W0 ρ h w) (hlt : edgesLt ops.toList 0 = true) (hnd : noDup (ops.toList.map (·.dst)) = true) {x : Nat} (dr : DrInv ρ lo h.next.toNat dead ops env tmps evs evd A (x :: B)) (hsz : tmps.size = nt) (hlo : lo ≤ h.next.toNat)
    {d : Option Pos} {g : Option (Opd × Bool)} {op : AOp} (he : entOk (dcOf P dead nt ops) evs (x, ⟨d, g, op⟩) = true) {v : AV} {h' : AHeap} (hr : doneV (want g [] env) op env h = .v v h') :
    ∃ ρ' tmps' w', Go.step P (lone (mkF fn tmps (.inRegion ops (x :: B) :: l) defers kind rd) cs w) = .next (lone (mkF fn tmps' (.inRegion ops B :: l) defers kind rd) cs w') ∧ Inv P K W0 ρ' h' w' ∧
      DrInv ρ' lo h'.next.toNat dead ops (putD env d v) tmps' evs evd (A ++ [x]) B ∧ tmps'.size = nt ∧ RLe ρ h.next.toNat ρ' h'.next.toNat := by
  obtain ⟨o, ho, h1, h2, h3⟩ := ent_spec he
  have H := H_of (nt := nt) k hlt dr
  -- what is written
  have fin : ∀ (ρ' : Rho) (w' : World) (xv : Value), Go.step P (lone (mkF fn tmps (.inRegion ops (x :: B) :: l) defers kind rd) cs w) = .next (lone (mkF fn (putT o.dst xv tmps) (.inRegion ops B :: l) defers kind rd) cs w') → VRel ρ' v xv → Inv P K W0 ρ' h' w' → RLe ρ h.next.toNat ρ' h'.next.toNat →
      ∃ ρ' tmps' w', Go.step P (lone (mkF fn tmps (.inRegion ops (x :: B) :: l) defers kind rd) cs w) = .next (lone (mkF fn tmps' (.inRegion ops B :: l) defers kind rd) cs w') ∧ Inv P K W0 ρ' h' w' ∧
      DrInv ρ' lo h'.next.toNat dead ops (putD env d v) tmps' evs evd (A ++ [x]) B ∧ tmps'.size = nt ∧ RLe ρ h.next.toNat ρ' h'.next.toNat := by
    intro ρ' w' xv hs hv hk rl
    refine ⟨ρ', _, w', hs, hk, dr.ran hnd hsz ho h1 rl.le rl.next (fun i hi hib q hq id hid => ?_) (fun k hk => ?_) (fun q hq a ha => ?_), by rw [putT_size]; exact hsz, rl⟩
    · exact rl.only id (dr.fresh i hi (List.mem_cons_of_mem _ hib) q hq id hid).2.2
    · cases d with
      | none => rfl
      | some p => simp only [putD, T.get_set]; rw [if_neg (fun e => hk (by rw [e]))]
    · subst hq
      simp only [putD, T.get_set, if_pos] at ha
      injection ha with ha
      subst ha
      exact hv
  unfold doneV at hr
  split at hr
  · rename_i hw
    have hwb := want_sound H h2 hw
    have hx := x_sound (o := o) k H h3
    rw [hr] at hx
    obtain ⟨nx, w', ρ', v', g1, g2, g3, g4, g5⟩ := hx
    exact fin ρ' w' v' (st_value ho hwb g1 g2) g3 g4 (k.rle g5)
  · rename_i hw
    have hwb := want_sound H h2 hw
    injection hr with e1 e2
    subst e1 e2
    exact fin ρ w undef (st_unwanted ho hwb) (by simp only [VRel]; exact ⟨#[], rfl, by simp⟩) k (RLe.refl _ _)
  · cases hr

/-- It calls. -/
theorem ch_call (k : Inv P K W0 ρ h w) (hlt : edgesLt ops.toList 0 = true) {x : Nat} (dr : DrInv ρ lo h.next.toNat dead ops env tmps evs evd A (x :: B))
    {d : Option Pos} {g : Option (Opd × Bool)} {op : AOp} (he : entOk (dcOf P dead nt ops) evs (x, ⟨d, g, op⟩) = true) {R : R} (hp : R.plain = False) (hr : doneV (want g [] env) op env h = R) :
    ∃ o, ops[x]? = some o ∧ dstD dead nt o.dst d = true ∧ Region.wanted o (yielded ops tmps) = true ∧ CallOk P w ρ (evalIn tmps) o R := by
  obtain ⟨o, ho, h1, h2, h3⟩ := ent_spec he
  have H := H_of (nt := nt) k hlt dr
  unfold doneV at hr
  split at hr
  · rename_i hw
    have hwb := want_sound H h2 hw
    have hx := x_sound (o := o) k H h3
    rw [hr] at hx
    refine ⟨o, ho, h1, hwb, ?_⟩
    cases R with
    | v v h => exact (hp.mp trivial).elim
    | _ => exact hx
  · rw [← hr] at hp; exact (hp.mp trivial).elim
  · rw [← hr] at hp; exact (hp.mp trivial).elim

/-! ### Two stores -/
theorem storeIn_spec {o : AOper} {id : Pos} {h1 : AHeap} (hs : storeIn o env h = some (id, h1)) : ∃ n a x obj obj', o = ⟨none, none, .store n a x⟩ ∧ h.t.get id = some obj ∧ h1 = setObj h id obj' ∧
    (∀ h2 : AHeap, h2.t.get id = some obj → storeIn o env h2 = some (id, setObj h2 id obj')) ∧ doneV (want none [] env) (.store n a x) env h = .v (.tup []) h1 := by
  unfold storeIn at hs
  split at hs
  · rename_i n a x
    split at hs
    · rename_i i off hev
      replace hs := bf_some hs
      obtain ⟨hb, hs⟩ := hs
      split at hs
      · rename_i h' hst
        injection hs with hs
        simp only [Prod.mk.injEq] at hs
        obtain ⟨rfl, rfl⟩ := hs
        have hst0 := hst
        unfold storeCells at hst
        rw [getObj_eq] at hst
        split at hst
        · rename_i sz ty fz cnt m hg
          replace hst := bf_some hst
          obtain ⟨hc, hst⟩ := hst
          split at hst
          · rename_i m' hm
            injection hst with hst
            refine ⟨n, a, x, _, .cells sz ty fz cnt m', rfl, hg, hst.symm, fun h2 hg2 => ?_, ?_⟩
            · unfold storeIn
              simp only [hev, hb, bf_true]
              unfold storeCells
              rw [getObj_eq, hg2]
              simp only [hc, bf_true, hm]
            · simp only [doneV, want, exec, wStore, hev, hb, bf_true, hst0, rOf]
          · cases hst
        · cases hst
      · cases hs
    · cases hs
  · cases hs

theorem setObj_comm {i j : Pos} (hij : i ≠ j) (a b : AObj) (p : Pos) : (setObj (setObj h i a) j b).t.get p = (setObj (setObj h j b) i a).t.get p := by
  simp only [setObj_t, T.get_set]
  by_cases h1 : p = i
  · subst h1; simp [hij]
  · by_cases h2 : p = j
    · subst h2; simp [h1]
    · simp [h1, h2]

/-! ### The whole -/
/-- What a run of phases brings about. -/
def DrawRes (P : Program) (K : CK) (dead : Nat → Bool) (nt : Nat) (W0 : World) (lo : Nat) (ops : Array Oper) (l : List Item) (fn : FuncId) (defers : List Deferred) (kind : CallKind) (rd : Option Nat) (cs : List Frame)
    (ph : List Phase) (n : Nat) (B : List Nat) (tmps : Array Value) (ρ : Rho) (h : AHeap) (w : World) : RD → Prop
  | .done e' h' => ∃ ρ' tmps' w', Steps P (lone (mkF fn tmps (.inRegion ops B :: l) defers kind rd) cs w) (lone (mkF fn tmps' (.inRegion ops [] :: l) defers kind rd) cs w') ∧
      Inv P K W0 ρ' h' w' ∧ EnvRel ρ' dead e' tmps' ∧ tmps'.size = nt ∧ ρ.le ρ' ∧ (∀ id : Pos, id.toNat < lo → ρ' id = ρ id) ∧ h.next.toNat ≤ h'.next.toNat
  | .call R d k' e' h' => ∃ i o evs' evd' A' B' ρ' tmps' w', n < k' ∧ Steps P (lone (mkF fn tmps (.inRegion ops B :: l) defers kind rd) cs w) (lone (mkF fn tmps' (.inRegion ops (i :: B') :: l) defers kind rd) cs w') ∧
      phOk (dcOf P dead nt ops) (some i) evs' evd' (ph.drop (k' - n)) = true ∧ ops[i]? = some o ∧ dstD dead nt o.dst d = true ∧ Region.wanted o (yielded ops tmps') = true ∧ CallOk P w' ρ' (evalIn tmps') o R ∧ R.plain = False ∧
      DrInv ρ' lo h'.next.toNat dead ops e' tmps' evs' evd' A' (i :: B') ∧ Inv P K W0 ρ' h' w' ∧ tmps'.size = nt ∧ ρ.le ρ' ∧ (∀ id : Pos, id.toNat < lo → ρ' id = ρ id) ∧ h.next.toNat ≤ h'.next.toNat
  | .no => True

theorem DrawRes.head {p : Phase} {ph : List Phase} {n : Nat} {B' : List Nat} {tmps' : Array Value} {h' : AHeap} {w' : World}
    (hs : Steps P (lone (mkF fn tmps (.inRegion ops B :: l) defers kind rd) cs w) (lone (mkF fn tmps' (.inRegion ops B' :: l) defers kind rd) cs w'))
    (le : ρ.le ρ') (only : ∀ id : Pos, id.toNat < lo → ρ' id = ρ id) (hn : h.next.toNat ≤ h'.next.toNat) {r : RD} (k : DrawRes P K dead nt W0 lo ops l fn defers kind rd cs ph (n + 1) B' tmps' ρ' h' w' r) :
    DrawRes P K dead nt W0 lo ops l fn defers kind rd cs (p :: ph) n B tmps ρ h w r := by
  cases r with
  | done e2 h2 =>
    obtain ⟨ρ2, t2, w2, k1, k2, k3, k4, k5, k6, k7⟩ := k
    exact ⟨ρ2, t2, w2, hs.trans k1, k2, k3, k4, Rho.le_trans le k5, fun id hid => (k6 id hid).trans (only id hid), Nat.le_trans hn k7⟩
  | call R d k' e2 h2 =>
    obtain ⟨i, o, evs', evd', A', B', ρ2, t2, w2, e1, k1, k2, k3, k4, k5, k6, k7, k8, k9, k10, k11, k12, k13⟩ := k
    refine ⟨i, o, evs', evd', A', B', ρ2, t2, w2, by omega, hs.trans k1, ?_, k3, k4, k5, k6, k7, k8, k9, k10, Rho.le_trans le k11, fun id hid => (k12 id hid).trans (only id hid), Nat.le_trans hn k13⟩
    have : k' - n = (k' - (n + 1)) + 1 := by omega
    rw [this, List.drop_succ_cons]
    exact k2
  | no => trivial

theorem over_iff {D : DC} {prev : Option Nat} {i : Nat} : over D prev i = true ↔ ∃ q ∈ prev.toList, i = q ∨ ahead D.bs i q = true := by
  cases prev with
  | none => simp [over]
  | some q => simp [over, beq_iff]

theorem EndsIn.mem {prev : Option Nat} (hp : EndsIn A prev) : ∀ q ∈ prev.toList, q ∈ A := by
  intro q hq
  cases prev with
  | none => simp at hq
  | some p =>
    obtain ⟨A', rfl⟩ := hp
    simp at hq
    subst hq
    simp

/-- What prev is ahead of has not run as prev has. -/
theorem behind_mem (hlt : edgesLt ops.toList 0 = true) (hs : Sched ops (A ++ B)) {prev : Option Nat} (hp : EndsIn A prev) {c : Nat} (hc : c < ops.size) (hb : behind (dcOf P dead nt ops) prev c = true) : c ∈ B := by
  rcases List.mem_append.1 (hs.all c hc) with hA | hB
  · exfalso
    cases prev with
    | none => have : A = [] := hp; rw [this] at hA; cases hA
    | some q =>
      obtain ⟨A', rfl⟩ := hp
      obtain ⟨A1, A2, hA'⟩ := List.append_of_mem hA
      have hq := ahead_mem hlt hs c q hb A1 (A2 ++ B) (by rw [hA']; simp)
      have hnd2 := hs.nodup
      rw [List.nodup_append] at hnd2
      have hnd3 := hnd2.1
      rcases List.eq_nil_or_concat A2 with rfl | ⟨A3, b, rfl⟩
      · have := List.append_inj' hA' rfl
        have e2 : q = c := by simpa using this.2
        subst e2
        rw [hA', List.nodup_append] at hnd3
        exact hnd3.2.2 q hq q (List.mem_cons_self ..) rfl
      · rw [List.concat_eq_append, ← List.cons_append, ← List.append_assoc] at hA'
        have := List.append_inj' hA' rfl
        have e2 : q = b := by simpa using this.2
        subst e2
        rw [this.1, List.nodup_append] at hnd3
        exact hnd3.2.2 q (List.mem_append_left _ hq) q (List.mem_singleton.2 rfl) rfl
  · exact hB

theorem isNil_eq {α : Type} {l : List α} (h : isNil l = true) : l = [] := by cases l <;> simp_all [isNil]

theorem DrInv.done {env : T AV} (dr : DrInv ρ lo nx dead ops env tmps evs evd A []) : EnvRel ρ dead env tmps := ⟨fun k v h => dr.val k v h (by simp), dr.none⟩

/-- The tail of a region with two last stores, behind the first of them. -/
theorem two_tail (hlt : edgesLt ops.toList 0 = true) (hnd : noDup (ops.toList.map (·.dst)) = true) {x y : Nat} {o : AOper} {Q : List Nat} {co cb : List (Nat × AOper)} {h1 h' : AHeap} {id : Pos}
    (hoy : entOk (dcOf P dead nt ops) evs (y, o) = true) (hck : ckOk (dcOf P dead nt ops) evs evd co = true) (hckb : ckOk (dcOf P dead nt ops) evs evd cb = true) (hc : chkOps co env h1 = true) (hst : storeIn o env h1 = some (id, h')) {h3 : AHeap} (hnx3 : h3.next = h'.next)
    (hget3 : ∀ p, h3.t.get p = h'.t.get p) (hcb : chkOps cb env h3 = true)
    (cov1 : ∀ z, z < ops.size → (∃ q ∈ x :: Q, z = q ∨ ahead (befs ops.toList []) z q = true) ∨ z ∈ [y] ∨ (∃ s ∈ [y], ahead (befs ops.toList []) s z = true) ∨ inE z co = true)
    (cov2 : ∀ z, z < ops.size → (∃ q ∈ y :: x :: Q, z = q ∨ ahead (befs ops.toList []) z q = true) ∨ z ∈ ([] : List Nat) ∨ (∃ s ∈ ([] : List Nat), ahead (befs ops.toList []) s z = true) ∨ inE z cb = true)
    (k : Inv P K W0 ρ h1 w) (dr : DrInv ρ lo h1.next.toNat dead ops env tmps evs evd A B) (hsz : tmps.size = nt) (hlo : lo ≤ h1.next.toNat) (hQ : ∀ q ∈ x :: Q, q ∈ A) (hy : y ∈ B) :
    ∃ ρ' tmps' w', Steps P (lone (mkF fn tmps (.inRegion ops B :: l) defers kind rd) cs w) (lone (mkF fn tmps' (.inRegion ops [] :: l) defers kind rd) cs w') ∧
      Inv P K W0 ρ' h3 w' ∧ EnvRel ρ' dead env tmps' ∧ tmps'.size = nt ∧ ρ.le ρ' ∧ (∀ id : Pos, id.toNat < lo → ρ' id = ρ id) := by
  obtain ⟨ρ1, A1, B1, t1, w1, a1, a2, a3, a4, a5, a6, a7, a8, a9⟩ := phase_run (l := l) (fn := fn) (defers := defers) (kind := kind) (rd := rd) (cs := cs) hlt hnd hck hc cov1 B A ρ w tmps k dr hsz hQ (by simpa using hy)
  have hB1 : ∃ B2, B1 = y :: B2 := by
    rcases a9 with rfl | ⟨s, B2, hs, rfl⟩
    · have := a8 y (by simp); simp at this
    · simp at hs; subst hs; exact ⟨B2, rfl⟩
  obtain ⟨B2, rfl⟩ := hB1
  obtain ⟨n, a, xx, obj, obj', rfl, s1, s2, s3, s4⟩ := storeIn_spec hst
  obtain ⟨ρ2, t2, w2, c1, c2, c3, c4, c5⟩ := ch_step (l := l) (fn := fn) (defers := defers) (kind := kind) (rd := rd) (cs := cs) a2 hlt hnd a3 a4 hlo hoy s4
  have hnx : h'.next = h1.next := by rw [s2, setObj_next]
  have c2' : Inv P K W0 ρ2 h3 w2 := c2.sub hnx3 (fun p o hp => by rw [← hget3]; exact hp)
  have c3' : DrInv ρ2 lo h3.next.toNat dead ops env t2 evs evd (A1 ++ [y]) B2 := by rw [hnx3]; exact c3
  obtain ⟨ρ3, A3, B3, t3, w3, d1, d2, d3, d4, d5, d6, d7, d8, d9⟩ := phase_run (l := l) (fn := fn) (defers := defers) (kind := kind) (rd := rd) (cs := cs) hlt hnd hckb hcb cov2 B2 (A1 ++ [y]) ρ2 w2 t2 c2' c3' c4 (fun q hq => by
    rcases List.mem_cons.1 hq with rfl | hq
    · simp
    · exact List.mem_append_left _ (a7 q (hQ q hq))) (by simp)
  have hB3 : B3 = [] := by
    rcases d9 with rfl | ⟨s, B4, hs, rfl⟩
    · rfl
    · simp at hs
  subst hB3
  refine ⟨ρ3, t3, w3, (a1.trans (.one c1)).trans d1, d2, d3.done, d4, Rho.le_trans a5 (Rho.le_trans c5.le d5), fun id hid => ?_⟩
  rw [d6 id hid, c5.only id (by omega), a6 id hid]

theorem draw_run (hlt : edgesLt ops.toList 0 = true) (hnd : noDup (ops.toList.map (·.dst)) = true) : ∀ (ph : List Phase) (prev : Option Nat) (evs evd : List Nat) (env : T AV) (h : AHeap) (ρ : Rho) (w : World) (tmps : Array Value) (A B : List Nat) (n : Nat),
    phOk (dcOf P dead nt ops) prev evs evd ph = true → EndsIn A prev → DrInv ρ lo h.next.toNat dead ops env tmps evs evd A B → Inv P K W0 ρ h w → tmps.size = nt → lo ≤ h.next.toNat →
      DrawRes P K dead nt W0 lo ops l fn defers kind rd cs ph n B tmps ρ h w (runDraw ph env h n)
  | [], _, _, _, _, _, _, _, _, _, _, _, hph, _, _, _, _, _ => by simp [phOk] at hph
  | p :: ph, prev, evs, evd, env, h, ρ, w, tmps, A, B, n, hph, hend, dr, k, hsz, hlo => by
    simp only [phOk, Bool.and_eq_true] at hph
    obtain ⟨⟨hev, hck⟩, hch⟩ := hph
    show DrawRes P K dead nt W0 lo ops l fn defers kind rd cs (p :: ph) n B tmps ρ h w (evOps (fun e h => bf (chkOps p.chk e h) (runCh p.ch (runDraw ph) (isNil ph) n e h) .no) p.ev env h)
    rcases ev_run hnd hlt hend p.ev env h evs evd hev k dr hlo (fun e h => bf (chkOps p.chk e h) (runCh p.ch (runDraw ph) (isNil ph) n e h) .no) with h0 | ⟨env1, hh, hr, k1, dr1, hn1⟩
    · rw [h0]; trivial
    · rw [hr]
      have hlen : (dcOf P dead nt ops).opsL.length = ops.size := by simp [dcOf]
      have hlo1 : lo ≤ hh.next.toNat := Nat.le_trans hlo hn1
      have hQ := hend.mem
      cases hcs : chkOps p.chk env1 hh with
      | false => trivial
      | true =>
        simp only [bf_true]
        cases hpc : p.ch with
        | last =>
          rw [hpc] at hch
          simp only [Bool.and_eq_true] at hch
          obtain ⟨hnil, hcov⟩ := hch
          simp only [runCh, hnil, bf_true]
          obtain ⟨ρ1, A1, B1, t1, w1, a1, a2, a3, a4, a5, a6, a7, a8, a9⟩ := phase_run (l := l) (fn := fn) (defers := defers) (kind := kind) (rd := rd) (cs := cs) hlt hnd hck hcs (Q := prev.toList) (stop := []) (fun x hx => by
            have := allN_spec hcov x (by rw [hlen]; exact hx)
            simp only [Bool.or_eq_true] at this
            rcases this with h1 | h1
            · exact .inl (over_iff.1 h1)
            · exact .inr (.inr (.inr h1))) B A ρ w tmps k1 dr1 hsz hQ (by simp)
          have hB1 : B1 = [] := by
            rcases a9 with rfl | ⟨s, B4, hs, rfl⟩
            · rfl
            · simp at hs
          subst hB1
          exact ⟨ρ1, t1, w1, a1, a2, a3.done, a4, a5, a6, hn1⟩
        | one c a =>
          rw [hpc] at hch
          simp only [Bool.and_eq_true] at hch
          obtain ⟨⟨⟨hent, hbeh⟩, hcov⟩, hrest⟩ := hch
          obtain ⟨oo, hoo, _⟩ := ent_spec hent
          have hclt : c < ops.size := (Array.getElem?_eq_some_iff.1 hoo).1
          have hcB := behind_mem hlt dr1.sched hend hclt hbeh
          obtain ⟨ρ1, A1, B1, t1, w1, a1, a2, a3, a4, a5, a6, a7, a8, a9⟩ := phase_run (l := l) (fn := fn) (defers := defers) (kind := kind) (rd := rd) (cs := cs) hlt hnd hck hcs (Q := prev.toList) (stop := [c]) (fun x hx => by
            have := allN_spec hcov x (by rw [hlen]; exact hx)
            simp only [Bool.or_eq_true, beq_iff] at this
            rcases this with ((h1 | h1) | h1) | h1
            · exact .inl (over_iff.1 h1)
            · exact .inr (.inl (by simp [h1]))
            · exact .inr (.inr (.inl ⟨c, by simp, h1⟩))
            · exact .inr (.inr (.inr h1))) B A ρ w tmps k1 dr1 hsz hQ (by simpa using hcB)
          have hB1 : ∃ B2, B1 = c :: B2 := by
            rcases a9 with rfl | ⟨s, B2, hs, rfl⟩
            · have := a8 c (by simp); simp at this
            · simp at hs; subst hs; exact ⟨B2, rfl⟩
          obtain ⟨B2, rfl⟩ := hB1
          obtain ⟨d, g, op⟩ := a
          simp only [runCh]
          have callres : ∀ R : R, R.plain = False → doneV (want g [] env1) op env1 hh = R → DrawRes P K dead nt W0 lo ops l fn defers kind rd cs (p :: ph) n B tmps ρ h w (.call R d (Nat.succ n) env1 hh) := by
            intro R hp hR
            obtain ⟨o, q1, q2, q3, q4⟩ := ch_call a2 hlt a3 hent hp hR
            refine ⟨c, o, _, _, A1, B2, ρ1, t1, w1, Nat.lt_succ_self n, a1, ?_, q1, q2, q3, q4, hp, a3, a2, a4, a5, a6, hn1⟩
            have : Nat.succ n - n = 1 := by omega
            rw [this]
            exact hrest
          cases hR : doneV (want g [] env1) op env1 hh with
          | v v h2 =>
            simp only [chNext]
            obtain ⟨ρ2, t2, w2, c1, c2, c3, c4, c5⟩ := ch_step (l := l) (fn := fn) (defers := defers) (kind := kind) (rd := rd) (cs := cs) a2 hlt hnd a3 a4 hlo1 hent hR
            have ih := draw_run hlt hnd ph (some c) _ _ (putD env1 d v) h2 ρ2 w2 t2 (A1 ++ [c]) B2 (n + 1) hrest ⟨A1, rfl⟩ c3 c2 c4 (Nat.le_trans hlo1 c5.next)
            exact DrawRes.head (a1.trans (.one c1)) (Rho.le_trans a5 c5.le) (fun id hid => by rw [c5.only id (by omega), a6 id hid]) (Nat.le_trans hn1 c5.next) ih
          | en f as => exact callres _ rfl hR
          | yl f as => exact callres _ rfl hR
          | df f => trivial
          | rc => trivial
          | no => trivial
        | two i j o q co cp cb =>
          rw [hpc] at hch
          simp only [Bool.and_eq_true, Bool.not_eq_true'] at hch
          obtain ⟨⟨⟨⟨⟨⟨⟨⟨⟨⟨⟨⟨⟨⟨hnil, heo⟩, heq⟩, hso⟩, hsq⟩, hij⟩, hbi⟩, hbj⟩, hco⟩, hcp⟩, hcb⟩, v1⟩, v2⟩, v3⟩, v4⟩ := hch
          simp only [runCh, hnil, bf_true]
          have hij : i ≠ j := fun e => by rw [e] at hij; simp at hij
          unfold runTwo
          cases ho1 : storeIn o env1 hh with
          | none => trivial
          | some x1 =>
            obtain ⟨ii, h1⟩ := x1
            cases hq1 : storeIn q env1 hh with
            | none => trivial
            | some x2 =>
              obtain ⟨jj, h2⟩ := x2
              simp only
              cases hcc : (!(ii.beq jj) && chkOps co env1 h1 && chkOps cp env1 h2) with
              | false => trivial
              | true =>
                simp only [bf_true]
                simp only [Bool.and_eq_true, Bool.not_eq_true'] at hcc
                obtain ⟨⟨hne, hc1⟩, hc2⟩ := hcc
                have hne : ii ≠ jj := fun e => by
                  have := Pos.beq_iff.2 e
                  rw [this] at hne
                  cases hne
                cases hq2 : storeIn q env1 h1 with
                | none => trivial
                | some x3 =>
                  obtain ⟨jj', h'⟩ := x3
                  simp only
                  cases hcb' : chkOps cb env1 h' with
                  | false => trivial
                  | true =>
                    simp only [bf_true]
                    obtain ⟨n1, e1, e2, ob, ob', ro, o1, o2, o3, o4⟩ := storeIn_spec ho1
                    obtain ⟨n2, f1, f2, pb, pb', rq, p1, p2, p3, p4⟩ := storeIn_spec hq1
                    have hg1 : h1.t.get jj = some pb := by rw [o2, setObj_t, T.get_set, if_neg (Ne.symm hne)]; exact p1
                    have hg2 : h2.t.get ii = some ob := by rw [p2, setObj_t, T.get_set, if_neg hne]; exact o1
                    have hq2' := p3 h1 hg1
                    rw [hq2] at hq2'
                    injection hq2' with hq2'
                    simp only [Prod.mk.injEq] at hq2'
                    obtain ⟨rfl, rfl⟩ := hq2'
                    have ho2 := o3 h2 hg2
                    obtain ⟨oi, hoi, _⟩ := ent_spec heo
                    obtain ⟨oj, hoj, _⟩ := ent_spec heq
                    have hiB := behind_mem hlt dr1.sched hend (Array.getElem?_eq_some_iff.1 hoi).1 hbi
                    have hjB := behind_mem hlt dr1.sched hend (Array.getElem?_eq_some_iff.1 hoj).1 hbj
                    obtain ⟨ρ1, A1, B1, t1, w1, a1, a2, a3, a4, a5, a6, a7, a8, a9⟩ := phase_run (l := l) (fn := fn) (defers := defers) (kind := kind) (rd := rd) (cs := cs) hlt hnd hck hcs (Q := prev.toList) (stop := [i, j]) (fun x hx => by
                      have := allN_spec v1 x (by rw [hlen]; exact hx)
                      simp only [Bool.or_eq_true, beq_iff] at this
                      rcases this with ((((h1 | h1) | h1) | h1) | h1) | h1
                      · exact .inl (over_iff.1 h1)
                      · exact .inr (.inl (by simp [h1]))
                      · exact .inr (.inl (by simp [h1]))
                      · exact .inr (.inr (.inl ⟨i, by simp, h1⟩))
                      · exact .inr (.inr (.inl ⟨j, by simp, h1⟩))
                      · exact .inr (.inr (.inr h1))) B A ρ w tmps k1 dr1 hsz hQ (by intro s hs; simp at hs; rcases hs with rfl | rfl <;> assumption)
                    have hn' : (setObj h1 jj' pb').next = hh.next := by rw [setObj_next, o2, setObj_next]
                    have hcommon : ∀ {c d : Nat} {B2 : List Nat}, (c = i ∧ d = j ∨ c = j ∧ d = i) → B1 = c :: B2 → d ∈ B2 := by
                      intro c d B2 hcd hB
                      have hd : d ∈ B1 := a8 d (by simp; omega)
                      rw [hB] at hd
                      rcases List.mem_cons.1 hd with e | hd
                      · omega
                      · exact hd
                    have finish : ∀ {ρ1' : Rho} {t2 : Array Value} {w2 : World} {B2 : List Nat} {hmid : AHeap}, Steps P (lone (mkF fn t1 (.inRegion ops B1 :: l) defers kind rd) cs w1) (lone (mkF fn t2 (.inRegion ops B2 :: l) defers kind rd) cs w2) → RLe ρ1 hh.next.toNat ρ1' hmid.next.toNat → hmid.next = hh.next →
                        (∃ ρ' tmps' w', Steps P (lone (mkF fn t2 (.inRegion ops B2 :: l) defers kind rd) cs w2) (lone (mkF fn tmps' (.inRegion ops [] :: l) defers kind rd) cs w') ∧ Inv P K W0 ρ' (setObj h1 jj' pb') w' ∧ EnvRel ρ' dead env1 tmps' ∧ tmps'.size = nt ∧ ρ1'.le ρ' ∧ (∀ id : Pos, id.toNat < lo → ρ' id = ρ1' id)) →
                        DrawRes P K dead nt W0 lo ops l fn defers kind rd cs (p :: ph) n B tmps ρ h w (.done env1 (setObj h1 jj' pb')) := by
                      intro ρ1' t2 w2 B2 hmid hs rl hm hex
                      obtain ⟨ρ3, t3, w3, z1, z2, z3, z4, z5, z6⟩ := hex
                      exact ⟨ρ3, t3, w3, (a1.trans hs).trans z1, z2, z3, z4, Rho.le_trans a5 (Rho.le_trans rl.le z5), fun id hid => by rw [z6 id hid, rl.only id (by omega), a6 id hid], by rw [hn']; exact hn1⟩
                    rcases a9 with rfl | ⟨s, B2, hs, hB⟩
                    · have := a8 i (by simp); simp at this
                    · simp only [List.mem_cons, List.mem_nil_iff, or_false] at hs
                      rcases hs with rfl | rfl
                      · have hjB2 := hcommon (c := s) (d := j) (.inl ⟨rfl, rfl⟩) hB
                        subst hB
                        subst ro
                        obtain ⟨ρ2, t2, w2, c1, c2, c3, c4, c5⟩ := ch_step (l := l) (fn := fn) (defers := defers) (kind := kind) (rd := rd) (cs := cs) a2 hlt hnd a3 a4 hlo1 heo o4
                        have hm1 : h1.next = hh.next := by rw [o2, setObj_next]
                        refine finish (.one c1) c5 hm1 (two_tail (x := s) (Q := prev.toList) hlt hnd heq hco hcb hc1 hq2 rfl (fun _ => rfl) hcb' (fun z hz => ?_) (fun z hz => ?_) c2 c3 c4 (by rw [hm1]; exact hlo1) (fun q hq => ?_) hjB2)
                        · have := allN_spec v2 z (by rw [hlen]; exact hz)
                          simp only [Bool.or_eq_true, beq_iff] at this
                          rcases this with ((((h1 | h1) | h1) | h1) | h1) | h1
                          · obtain ⟨q, hq, hh⟩ := over_iff.1 h1
                            exact .inl ⟨q, List.mem_cons_of_mem _ hq, hh⟩
                          · exact .inl ⟨s, by simp, .inl h1⟩
                          · exact .inr (.inl (by simp [h1]))
                          · exact .inl ⟨s, by simp, .inr h1⟩
                          · exact .inr (.inr (.inl ⟨j, by simp, h1⟩))
                          · exact .inr (.inr (.inr h1))
                        · have := allN_spec v4 z (by rw [hlen]; exact hz)
                          simp only [Bool.or_eq_true, beq_iff] at this
                          rcases this with ((((h1 | h1) | h1) | h1) | h1) | h1
                          · obtain ⟨q, hq, hh⟩ := over_iff.1 h1
                            exact .inl ⟨q, List.mem_cons_of_mem _ (List.mem_cons_of_mem _ hq), hh⟩
                          · exact .inl ⟨s, by simp, .inl h1⟩
                          · exact .inl ⟨j, by simp, .inl h1⟩
                          · exact .inl ⟨s, by simp, .inr h1⟩
                          · exact .inl ⟨j, by simp, .inr h1⟩
                          · exact .inr (.inr (.inr h1))
                        · rcases List.mem_cons.1 hq with rfl | hq
                          · simp
                          · exact List.mem_append_left _ (a7 q (hQ q hq))
                      · have hiB2 := hcommon (c := s) (d := i) (.inr ⟨rfl, rfl⟩) hB
                        subst hB
                        subst rq
                        obtain ⟨ρ2, t2, w2, c1, c2, c3, c4, c5⟩ := ch_step (l := l) (fn := fn) (defers := defers) (kind := kind) (rd := rd) (cs := cs) a2 hlt hnd a3 a4 hlo1 heq p4
                        have hm1 : h2.next = hh.next := by rw [p2, setObj_next]
                        refine finish (.one c1) c5 hm1 (two_tail (x := s) (Q := prev.toList) (id := ii) (h' := setObj h2 ii ob') hlt hnd heo hcp hcb hc2 ho2 (by rw [hn', setObj_next, hm1]) (fun z => ?_) hcb' (fun z hz => ?_) (fun z hz => ?_) c2 c3 c4 (by rw [hm1]; exact hlo1) (fun q hq => ?_) hiB2)
                        · rw [o2, p2]
                          exact setObj_comm hne ob' pb' z
                        · have := allN_spec v3 z (by rw [hlen]; exact hz)
                          simp only [Bool.or_eq_true, beq_iff] at this
                          rcases this with ((((h1 | h1) | h1) | h1) | h1) | h1
                          · obtain ⟨q, hq, hh⟩ := over_iff.1 h1
                            exact .inl ⟨q, List.mem_cons_of_mem _ hq, hh⟩
                          · exact .inr (.inl (by simp [h1]))
                          · exact .inl ⟨s, by simp, .inl h1⟩
                          · exact .inl ⟨s, by simp, .inr h1⟩
                          · exact .inr (.inr (.inl ⟨i, by simp, h1⟩))
                          · exact .inr (.inr (.inr h1))
                        · have := allN_spec v4 z (by rw [hlen]; exact hz)
                          simp only [Bool.or_eq_true, beq_iff] at this
                          rcases this with ((((h1 | h1) | h1) | h1) | h1) | h1
                          · obtain ⟨q, hq, hh⟩ := over_iff.1 h1
                            exact .inl ⟨q, List.mem_cons_of_mem _ (List.mem_cons_of_mem _ hq), hh⟩
                          · exact .inl ⟨i, by simp, .inl h1⟩
                          · exact .inl ⟨s, by simp, .inl h1⟩
                          · exact .inl ⟨i, by simp, .inr h1⟩
                          · exact .inl ⟨s, by simp, .inr h1⟩
                          · exact .inr (.inr (.inr h1))
                        · rcases List.mem_cons.1 hq with rfl | hq
                          · simp
                          · exact List.mem_append_left _ (a7 q (hQ q hq))

end
end
end Go.Absm

/- The abstract machine: what is yet to be done, step by step; functions entered; frames behind a call. -/
namespace Go.Absm
noncomputable section
set_option linter.unusedVariables false
set_option linter.unusedSectionVars false

section
variable {P : Program} {tb : Prg} {dm : T Nat} {dead : Nat → Bool} {nt : Nat} {W0 w : World} {ρ ρ' : Rho} {lo nx nx' : Nat} {h : AHeap} {env : T AV} {tmps : Array Value}
variable {f : Pos} {fn : FuncId} {defers : List Deferred} {kind : CallKind} {rd : Option Nat} {cs : List Frame}

/-- The first thing that is yet to be done, scopes opened. -/
inductive PL1 (P : Program) (tb : Prg) (dm : T Nat) (dead : Nat → Bool) (ρ : Rho) (f : Pos) : List AItem → List Item → Prop
  | nil : PL1 P tb dm dead ρ f [] []
  | code {k : List AItem} {l : List Item} {c : Pos} {C : Code} : (∀ A, C ≠ .scope A) → (kOf P tb dm).ok dead f c C → PL (kOf P tb dm) dead ρ f k l → PL1 P tb dm dead ρ f (.code c :: k) (.code C :: l)
  | jump {k : List AItem} {l : List Item} {j : AJump} {C : Code} : JRel (some j) (some C) → PL (kOf P tb dm) dead ρ f k l → PL1 P tb dm dead ρ f (.jump j :: k) (.code C :: l)
  | inBlock {k : List AItem} {l : List Item} (id : Nat) : PL (kOf P tb dm) dead ρ f k l → PL1 P tb dm dead ρ f (.inBlock id :: k) (.inBlock id :: l)
  | inLoop {k : List AItem} {l : List Item} {c : Pos} {C : Code} : (kOf P tb dm).ok dead f c C → PL (kOf P tb dm) dead ρ f k l → PL1 P tb dm dead ρ f (.inLoop c :: k) (.inLoop C :: l)
  | endRF {k : List AItem} {l : List Item} {p : Pos} {r : Ref} : ρ p = some r → PL (kOf P tb dm) dead ρ f k l → PL1 P tb dm dead ρ f (.endRF p :: k) (.endRangeFunc r.blk :: l)
  | beginR {k : List AItem} {l : List Item} : PL (kOf P tb dm) dead ρ f k l → PL1 P tb dm dead ρ f (.beginR :: k) (.beginRound :: l)

theorem code_norm : ∀ (C : Code) (l : List Item) {c : Pos} {k : List AItem}, (kOf P tb dm).ok dead f c C → PL (kOf P tb dm) dead ρ f k l →
    ∃ C' l', Steps P (lone (mkF fn tmps (.code C :: l) defers kind rd) cs w) (lone (mkF fn tmps (.code C' :: l') defers kind rd) cs w) ∧ (∀ A, C' ≠ .scope A) ∧ (kOf P tb dm).ok dead f c C' ∧ PL (kOf P tb dm) dead ρ f k l' := by
  intro C
  induction C with
  | scope A ih =>
    intro l c k hok hl
    obtain ⟨C', l', h1, h2, h3, h4⟩ := ih (.inScope A :: l) (c := c) (k := k) ⟨hok.1, hok.2⟩ (.scope A hl)
    exact ⟨C', l', .head st_scope h1, h2, h3, h4⟩
  | _ => intro l c k hok hl; exact ⟨_, l, Steps.refl _ _, fun A h => by simp at h, hok, hl⟩

theorem pl_norm {k : List AItem} {l : List Item} (hk : PL (kOf P tb dm) dead ρ f k l) :
    ∃ l', Steps P (lone (mkF fn tmps l defers kind rd) cs w) (lone (mkF fn tmps l' defers kind rd) cs w) ∧ PL1 P tb dm dead ρ f k l' := by
  induction hk with
  | nil => exact ⟨[], Steps.refl _ _, .nil⟩
  | scope C _ ih => obtain ⟨l', h1, h2⟩ := ih; exact ⟨l', .head st_inScope h1, h2⟩
  | code hc hk _ =>
    obtain ⟨C', l', h1, h2, h3, h4⟩ := code_norm (fn := fn) (tmps := tmps) (defers := defers) (kind := kind) (rd := rd) (cs := cs) (w := w) _ _ hc hk
    exact ⟨_, h1, .code h2 h3 h4⟩
  | jump hj hk _ => exact ⟨_, Steps.refl _ _, .jump hj hk⟩
  | inBlock id hk _ => exact ⟨_, Steps.refl _ _, .inBlock id hk⟩
  | inLoop hc hk _ => exact ⟨_, Steps.refl _ _, .inLoop hc hk⟩
  | endRF hr hk _ => exact ⟨_, Steps.refl _ _, .endRF hr hk⟩
  | beginR hk _ => exact ⟨_, Steps.refl _ _, .beginR hk⟩

theorem exit_pl {k : List AItem} {l : List Item} (hk : PL (kOf P tb dm) dead ρ f k l) (id : Nat) :
    (∀ k', exitTo id k = some k' → ∃ l', Go.exitTo id l = some l' ∧ PL (kOf P tb dm) dead ρ f k' l') ∧ (exitTo id k = none → Go.exitTo id l = none) := by
  induction hk with
  | nil => exact ⟨fun k' h => by simp [exitTo] at h, fun _ => by simp [Go.exitTo]⟩
  | scope C _ ih => simpa [Go.exitTo] using ih
  | inBlock j hk ih =>
    rename_i k l
    by_cases hj : j = id
    · subst hj
      refine ⟨fun k' h => ?_, fun h => by simp [exitTo] at h⟩
      simp [exitTo] at h
      subst h
      exact ⟨l, by simp [Go.exitTo], hk⟩
    · have hb : Nat.beq j id = false := by
        cases hb : Nat.beq j id with
        | false => rfl
        | true => exact absurd (beq_iff.1 hb) hj
      simpa [exitTo, Go.exitTo, hb, hj] using ih
  | code _ _ ih => simpa [exitTo, Go.exitTo] using ih
  | jump _ _ ih => simpa [exitTo, Go.exitTo] using ih
  | inLoop _ _ ih => simpa [exitTo, Go.exitTo] using ih
  | endRF _ _ ih => simpa [exitTo, Go.exitTo] using ih
  | beginR _ ih => simpa [exitTo, Go.exitTo] using ih

/-! ### A function is entered -/
theorem envOf_get : ∀ (as : List AV) (i : Pos) (e : T AV) (k : Pos), (envOf as i e).get k = if i.toNat ≤ k.toNat ∧ k.toNat < i.toNat + as.length then as[k.toNat - i.toNat]? else e.get k
  | [], i, e, k => by
    rw [if_neg (by simp only [List.length_nil]; omega)]
    rfl
  | a :: as, i, e, k => by
    simp only [envOf]
    rw [envOf_get as i.succ (e.set i a) k]
    simp only [Pos.toNat_succ, List.length_cons]
    by_cases h1 : i.toNat + 1 ≤ k.toNat ∧ k.toNat < i.toNat + 1 + as.length
    · rw [if_pos h1, if_pos (by omega)]
      have : k.toNat - i.toNat = (k.toNat - (i.toNat + 1)) + 1 := by omega
      rw [this, List.getElem?_cons_succ]
    · rw [if_neg h1, T.get_set]
      by_cases h2 : k = i
      · subst h2
        rw [if_pos rfl, if_pos (by omega)]
        simp
      · have : k.toNat ≠ i.toNat := fun e => h2 (Pos.toNat_inj e)
        rw [if_neg h2, if_neg (by omega)]

theorem liveTo_spec {dead : Nat → Bool} : ∀ {n : Nat}, liveTo dead n = true → ∀ i, i < n → dead i = false
  | 0, _, i, hi => by omega
  | n + 1, h, i, hi => by
    simp only [liveTo, Bool.and_eq_true, Bool.not_eq_true'] at h
    by_cases hin : i = n
    · rw [hin]; exact h.1
    · exact liveTo_spec h.2 i (by omega)

theorem enter_ok (hT : TblOk P tb dm) {as : List AV} {dfd : Bool} {g : AFrame} (he : enter tb f as dfd = some g) {args : Array Value} (ha : VRelL ρ as args.toList) :
    runsB P f.toNat = true ∧ FmRel P tb dm ρ nx nx g (Frame.enter P f.toNat args (if dfd then .deferred else .normal)) := by
  unfold enter at he
  split at he
  · rename_i na c res hf
    obtain ⟨hle, he⟩ := bf_some he
    injection he with he
    subst he
    rw [lenL_eq] at hle
    have hle : as.length ≤ na := ble_iff.1 hle
    have hok := hT.fns f
    unfold fnOk at hok
    rw [hf] at hok
    simp only at hok
    split at hok
    · rename_i fnn hfn
      split at hok
      · rename_i C hC
        simp only [Bool.and_eq_true, ble_iff] at hok
        obtain ⟨⟨⟨⟨h1, h2⟩, h3⟩, h4⟩, h5⟩ := hok
        have hnt : ntOf P f = fnn.ntmps := by simp [ntOf, hfn]
        have hlen := ha.length
        simp only [Array.length_toList] at hlen
        refine ⟨by simp [runsB, hfn, hC, h1], ?_⟩
        have hfr : Frame.enter P f.toNat args (if dfd then .deferred else .normal) = mkF f.toNat (args ++ Array.replicate (fnn.ntmps - args.size) undef) [.code C] [] (if dfd then .deferred else .normal) none := by
          simp [Frame.enter, hfn, hC]
        rw [hfr]
        refine ⟨rfl, by simp [hnt]; omega, fun _ => ⟨rfl, .pl ⟨fun k v hk => ?_, fun k hk => ?_⟩ (.code ⟨rfl, by rw [hnt]; exact h4⟩ .nil)⟩, fun hm => by simp at hm, by simp [DRel], rfl, rfl⟩
        · rw [envOf_get] at hk
          split at hk
          · rename_i hkl
            simp only [Pos.toNat, Nat.sub_zero, Nat.zero_add] at hk hkl
            obtain ⟨x, hx, hv⟩ := ha.get hk
            rw [Array.getElem?_toList] at hx
            have hxl := (Array.getElem?_eq_some_iff.1 hx).1
            rw [Array.getD_eq_getD_getElem?, Array.getElem?_append, if_pos hxl, hx]
            exact hv
          · simp at hk
        · rw [envOf_get]
          split
          · rename_i hkl
            simp only [Pos.toNat, Nat.zero_add] at hkl
            rw [liveTo_spec h3 k.toNat (by omega)] at hk
            cases hk
          · simp
      · cases hok
    · cases hok
  · cases he

theorem yieldEnv_ok {dead : Nat → Bool} : ∀ (ps : List Pos) (as : List AV) (env env' : T AV) (args : List Value) (tmps : Array Value), yieldEnv ps as env = some env' → EnvRel ρ dead env tmps → VRelL ρ as args → (∀ p ∈ ps, dead p.toNat = false ∧ p.toNat < tmps.size) →
    ps.length = args.length ∧ EnvRel ρ dead env' (((ps.map Pos.toNat).zip args).foldl (fun tmps (t, a) => tmps.setIfInBounds t a) tmps) ∧ (((ps.map Pos.toNat).zip args).foldl (fun tmps (t, a) => tmps.setIfInBounds t a) tmps).size = tmps.size
  | [], [], env, env', args, tmps, h, he, ha, hp => by
    injection h with h
    subst h
    simp at ha
    subst ha
    exact ⟨rfl, he, rfl⟩
  | p :: ps, a :: as, env, env', args, tmps, h, he, ha, hp => by
    obtain ⟨v, args', rfl, h1, h2⟩ := VRelL.cons.1 ha
    simp only [yieldEnv] at h
    obtain ⟨hd, hl⟩ := hp p (List.mem_cons_self ..)
    have he' : EnvRel ρ dead (env.set p a) (tmps.setIfInBounds p.toNat v) :=
      EnvRel.put (nt := tmps.size) (p := some p) (d := some p.toNat) he rfl (by simp [dstOk, hd, blt_iff.2 hl]) h1
    obtain ⟨g1, g2, g3⟩ := yieldEnv_ok ps as (env.set p a) env' args' (tmps.setIfInBounds p.toNat v) h he' h2 (fun q hq => by simpa using hp q (List.mem_cons_of_mem _ hq))
    exact ⟨by simp [g1], by simpa using g2, by simpa using g3⟩
  | [], _ :: _, _, _, _, _, h, _, _, _ => by simp [yieldEnv] at h
  | _ :: _, [], _, _, _, _, h, _, _, _ => by simp [yieldEnv] at h

/-! ### Behind a call -/
theorem finish_ok (hT : TblOk P tb dm) {a a' : AFrame} {fr : Frame} (hf : FmRel P tb dm ρ lo nx a fr) {v : AV} {x : Value} (hv : VRel ρ v x) (h : finish a v = some a') : FmRel P tb dm ρ lo nx a' (fr.finish x) := by
  unfold finish at h
  split at h
  · rename_i X env sc d c n k
    injection h with h
    subst h
    obtain ⟨h1, h2, h3, h4, h5, h6, h7⟩ := hf
    obtain ⟨hm, ht⟩ := h3 rfl
    obtain ⟨ffn, ftmps, ftodo, fdefers, fmode, fkind, frd⟩ := fr
    simp only at h1 h2 hm ht h5 h6 h7
    subst hm
    cases ht with
    | pl _ hp => exact absurd (hp.noWait _ _ rfl) (by simp [isWait])
    | opsW e1 e2 e3 e4 e5 e6 e7 =>
      rename_i n l ops L ds o
      have hfin := finish_region (fn := ffn) (tmps := ftmps) (l := l) (defers := fdefers) (kind := fkind) (rd := frd) (rest := List.range' (n + 1) (ops.size - (n + 1))) e4 x
      rw [hfin]
      refine ⟨h1, by rw [putT_size]; exact h2, fun _ => ⟨rfl, .ops (e1.put h2 e5 hv) e2 e3 e6 (e7.putT hv fun t ht => ?_)⟩, fun hm => by simp at hm, h5, h6, h7⟩
      rw [ht] at e5
      rw [h2]
      cases d with
      | none => simp only [dstOk, Bool.and_eq_true, blt_iff] at e5; exact e5.2
      | some p => simp only [dstOk, Bool.and_eq_true, blt_iff] at e5; exact e5.2
  · rename_i X env d c n k
    injection h with h
    subst h
    obtain ⟨h1, h2, h3, h4, h5, h6, h7⟩ := hf
    obtain ⟨hm, ht⟩ := h3 rfl
    obtain ⟨ffn, ftmps, ftodo, fdefers, fmode, fkind, frd⟩ := fr
    simp only at h1 h2 hm ht h5 h6 h7
    subst hm
    cases ht with
    | pl _ hp => exact absurd (hp.noWait _ _ rfl) (by simp [isWait])
    | drW e1 e2 e3 e4 e5 e6 e7 e8 =>
      rename_i l ops ph i o evs evd A B
      have hfin := finish_region (fn := ffn) (tmps := ftmps) (l := l) (defers := fdefers) (kind := fkind) (rd := frd) (rest := B) e6 x
      rw [hfin]
      refine ⟨h1, by rw [putT_size]; exact h2, fun _ => ⟨rfl, .dr e1 e2 e3 e4 e5 ⟨A, rfl⟩ (e8.ran (env' := putD env d v) e4 h2 e6 e7 (Rho.le_refl _) (Nat.le_refl _) (fun _ _ _ _ _ _ _ => rfl) (fun q hq => ?_) (fun q hq a ha => ?_))⟩, fun hm => by simp at hm, h5, h6, h7⟩
      · cases d with
        | none => rfl
        | some p => simp only [putD, T.get_set]; rw [if_neg (fun e => hq (by rw [e]))]
      · subst hq
        simp only [putD, T.get_set, if_pos] at ha
        injection ha with ha
        subst ha
        exact hv
  · rename_i X env lp k
    injection h with h
    subst h
    obtain ⟨h1, h2, h3, h4, h5, h6, h7⟩ := hf
    obtain ⟨hm, ht⟩ := h3 rfl
    obtain ⟨ffn, ftmps, ftodo, fdefers, fmode, fkind, frd⟩ := fr
    simp only at h1 h2 hm ht h5 h6 h7
    subst hm
    cases ht with
    | pl _ hp => exact absurd (hp.noWait _ _ rfl) (by simp [isWait])
    | inRF e1 e2 e3 => exact ⟨h1, h2, fun _ => ⟨rfl, .pl e1 (.endRF e2 e3)⟩, fun hm => by simp at hm, h5, h6, h7⟩
  · cases h

end
end
end Go.Absm

/- The abstract machine: calls, rounds, frames that leave. -/
namespace Go.Absm
noncomputable section
set_option linter.unusedVariables false
set_option linter.unusedSectionVars false

section
variable {P : Program} {tb : Prg} {dm : T Nat} {dead : Nat → Bool} {nt : Nat} {W0 w w1 : World} {ρ ρ' : Rho} {lo nx nx' : Nat} {h : AHeap} {env : T AV} {tmps : Array Value}
variable {f : Pos} {fn : FuncId} {defers : List Deferred} {kind : CallKind} {rd : Option Nat} {cs : List Frame} {as : List AFrame} {cs0 : List Frame} {l : List Item} {todo : List Item}

/-- The model's machine comes to what the abstract one says. -/
def Sim (P : Program) (tb : Prg) (dm : T Nat) (W0 : World) (fr : Frame) (cs cs0 : List Frame) (w : World) (m' : AM) : Prop :=
  ∃ ρ' lo' fr' cs' w', Steps P (lone fr (cs ++ cs0) w) (lone fr' (cs' ++ cs0) w') ∧ MRel P tb dm W0 ρ' lo' m' fr' cs' w'

theorem Sim.head {fr fr1 : Frame} {m' : AM} (hs : Steps P (lone fr (cs ++ cs0) w) (lone fr1 (cs ++ cs0) w1)) (k : Sim P tb dm W0 fr1 cs cs0 w1 m') : Sim P tb dm W0 fr cs cs0 w m' := by
  obtain ⟨ρ', lo', fr', cs', w', h1, h2⟩ := k
  exact ⟨ρ', lo', fr', cs', w', hs.trans h1, h2⟩

/-! ### Calls -/
theorem goCall_en (hT : TblOk P tb dm) (k : Inv P (kOf P tb dm) W0 ρ h w) (hlo : lo ≤ h.next.toNat) {a0 : AFrame} {fr0 fr1 : Frame} (hf : FmRel P tb dm ρ lo h.next.toNat a0 fr0) (hcs : CsRel P tb dm ρ lo as cs) {vs : List AV} {args : Array Value} (ha : VRelL ρ vs args.toList)
    (hstep : runsB P f.toNat = true → Go.step P (lone fr1 (cs ++ cs0) w1) = .next (lone (Frame.enter P f.toNat args .normal) (fr0 :: (cs ++ cs0)) w)) {m' : AM} (hm : goCall tb (.en f vs) a0 as h = some m') : Sim P tb dm W0 fr1 cs cs0 w1 m' := by
  simp only [goCall] at hm
  split at hm
  · rename_i g hg
    injection hm with hm
    subst hm
    obtain ⟨h1, h2⟩ := enter_ok (ρ := ρ) (nx := h.next.toNat) hT hg ha
    exact ⟨ρ, h.next.toNat, _, fr0 :: cs, w, .one (hstep h1), k, Nat.le_refl _, h2, .cons hlo hf hcs⟩
  · cases hm

theorem run_getLoop {r : Nat} {L : Loop} (hw : w.heap[r]? = some (.loop L)) : (Instr.getLoop r).run P w = .ok L w := by
  simp [Instr.getLoop, Go.getObj, Sem.run, hw]

theorem goCall_yl (hT : TblOk P tb dm) (k : Inv P (kOf P tb dm) W0 ρ h w) (hlo : lo ≤ h.next.toNat) {a0 : AFrame} {fr0 fr1 : Frame} (hf : FmRel P tb dm ρ lo h.next.toNat a0 fr0) (hcs : CsRel P tb dm ρ lo as cs) {p : Pos} {r : Ref} (hr : ρ p = some r) {vs : List AV} {args : Array Value} (ha : VRelL ρ vs args.toList)
    (hstep : ∀ g ts asg body, (Instr.yield r.blk args).run P w = .ok (.round r.blk g ts asg body) w → Go.step P (lone fr1 (cs ++ cs0) w1) = .next (lone (Frame.round r.blk g ts asg body .normal) (fr0 :: (cs ++ cs0)) w)) {m' : AM} (hm : goCall tb (.yl p vs) a0 as h = some m') :
    Sim P tb dm W0 fr1 cs cs0 w1 m' := by
  simp only [goCall] at hm
  rw [getObj_eq] at hm
  split at hm
  · rename_i st pend g env ps asg body d hg
    split at hm
    · rename_i env' hy
      injection hm with hm
      subst hm
      have kl := k.obj _ _ _ hg hr
      obtain ⟨pc, ts, ac, bc, dr, dead, h1, h2, h3, h4, h5, h6, h7, h8⟩ := kl.ex
      obtain ⟨g1, g2, g3⟩ := yieldEnv_ok ps vs env env' args.toList ts hy h3 ha h7
      have hsz : args.size = (ps.map Pos.toNat).toArray.size := by simp at g1 ⊢; omega
      have hrun : (Instr.yield r.blk args).run P w = .ok (.round r.blk g.toNat (((ps.map Pos.toNat).toArray.zip args).foldl (fun tmps (t, a) => tmps.setIfInBounds t a) ts) ac bc) w := by
        simp [Instr.yield, run_getLoop h1, hsz]
      have hfold : (((ps.map Pos.toNat).toArray.zip args).foldl (fun tmps (t, a) => tmps.setIfInBounds t a) ts) = (((ps.map Pos.toNat).zip args.toList).foldl (fun tmps (t, a) => tmps.setIfInBounds t a) ts) := by
        rw [← Array.foldl_toList]
        simp
      rw [← hfold] at g2 g3
      have hd : dead = bit (maskOf dm g) := h4.1
      subst hd
      refine ⟨ρ, h.next.toNat, _, fr0 :: cs, w, .one (hstep _ _ _ _ hrun), k, Nat.le_refl _, ⟨rfl, by show _ = ntOf P g; rw [Frame.round]; exact g3.trans h8, fun _ => ⟨rfl, .pl g2 (.code h4 (.beginR (.code h5 .nil)))⟩, fun hm => by simp at hm, by simp [Frame.round, DRel], rfl, r, hr, rfl⟩, .cons hlo hf hcs⟩
    · cases hm
  · cases hm

/-! ### Frames that leave -/
def LeaveAt (jc : Option Code) (todo : List Item) : Prop :=
  (todo = [] ∧ jc = none) ∨ (∃ l, todo = .code .ret :: l ∧ jc = some .ret) ∨ (∃ id l, todo = .code (.exit id) :: l ∧ jc = some (.exit id) ∧ Go.exitTo id l = none)

theorem st_leave_none {jc : Option Code} (hl : LeaveAt jc todo) (hj : jc = none ∨ jc = some .ret) (hr : rd = none) :
    Go.step P (lone (mkF fn tmps todo defers kind rd) cs w) = .next (lone { mkF fn tmps todo defers kind rd with mode := .returning } cs w) := by
  subst hr
  rcases hl with ⟨rfl, rfl⟩ | ⟨l, rfl, rfl⟩ | ⟨id, l, rfl, rfl, he⟩
  · exact st_end rfl
  · exact st_ret rfl
  · simp at hj

theorem st_leave_round {jc : Option Code} (hl : LeaveAt jc todo) {r : Nat} (hr : rd = some r) (hk : kind = .normal) {v : Value} {w' : World} (hrun : (Instr.endRound r jc).run P w = .ok v w') {c : Frame} :
    Go.step P (lone (mkF fn tmps todo defers kind rd) (c :: cs) w) = .next (lone (c.finish v) cs w') := by
  subst hr hk
  refine step_lone_go ?_
  rcases hl with ⟨rfl, rfl⟩ | ⟨l, rfl, rfl⟩ | ⟨id, l, rfl, rfl, he⟩
  · simp [stepG, stepG.exec, Sem.runT_eq, hrun, GStep.bare_after, doReturn]
  · simp [stepG, stepG.exec, Sem.runT_eq, hrun, GStep.bare_after, doReturn]
  · simp [stepG, stepG.exec, Sem.runT_eq, hrun, GStep.bare_after, doReturn, he]

theorem run_setLoop {r : Nat} {L L' : Loop} (hw : w.heap[r]? = some (.loop L)) : (Go.setObj r (.loop L')).run P w = .ok () { w with heap := w.heap.setIfInBounds r (.loop L') } :=
  run_setObj hw (by simp)

theorem endRound_run {r : Nat} {L : Loop} (hw : w.heap[r]? = some (.loop L)) (jc : Option Code) :
    (Instr.endRound r jc).run P w = .ok (.bool jc.isNone) { w with heap := w.heap.setIfInBounds r (.loop { L with state := if jc.isNone then .ready else .done, pending := jc }) } := by
  simp [Instr.endRound, run_getLoop hw, run_setLoop hw]

/-- A loop is written. -/
theorem Inv.loopSet (k : Inv P (kOf P tb dm) W0 ρ h w) {p : Pos} {r : Ref} {st st' : LoopState} {pend pend' : Option AJump} {g : Pos} {ps : List Pos} {asg body d : Pos} (hr : ρ p = some r) (hg : h.t.get p = some (.loop st pend g env ps asg body d)) {L L' : Loop} (hw : w.heap[r.blk]? = some (.loop L))
    (hL : L' = { L with state := st', pending := L'.pending }) (hj : JRel pend' L'.pending) :
    Inv P (kOf P tb dm) W0 ρ (setObj h p (.loop st' pend' g env ps asg body d)) { w with heap := w.heap.setIfInBounds r.blk (.loop L') } ∧ Fr ρ h ρ (setObj h p (.loop st' pend' g env ps asg body d)) := by
  have kl := k.obj _ _ _ hg hr
  obtain ⟨pc, ts, ac, bc, dr, dead, h1, h2, h3, h4, h5, h6, h7⟩ := kl.ex
  rw [hw] at h1
  injection h1 with h1
  injection h1 with h1
  subst h1
  refine k.wrote hg hr rfl (fun B hB => heap_set_ne _ _ _ _ hB) (by simp) rfl rfl rfl rfl ⟨L'.pending, ts, ac, bc, dr, dead, ?_, hj, h3, h4, h5, h6, h7⟩
  rw [heap_set_same _ _ _ (k.bound _ _ hr), hL]

theorem FmRel.toRet {x : FX} {k : List AItem} (hf : FmRel P tb dm ρ lo nx ⟨x, env, k, .run⟩ (mkF fn tmps todo defers kind rd)) (he : EnvRel ρ (bit (maskOf dm x.fn)) env tmps) (k' : List AItem) :
    FmRel P tb dm ρ lo nx ⟨x, env, k', .ret⟩ { mkF fn tmps todo defers kind rd with mode := .returning } :=
  ⟨hf.fn, hf.size, fun hm => by simp at hm, fun _ => ⟨rfl, he⟩, hf.defers, hf.kind, hf.round⟩

theorem leave_ok (hT : TblOk P tb dm) (k : Inv P (kOf P tb dm) W0 ρ h w) (hlo : lo ≤ h.next.toNat) {x : FX} {kk k' : List AItem} (hf : FmRel P tb dm ρ lo h.next.toNat ⟨x, env, kk, .run⟩ (mkF fn tmps todo defers kind rd)) (he : EnvRel ρ (bit (maskOf dm x.fn)) env tmps)
    (hcs : CsRel P tb dm ρ lo as cs) {j : Option AJump} {jc : Option Code} (hj : JRel j jc) (hl : LeaveAt jc todo) {m' : AM} (hm : leave j x env k' as h = some m') : Sim P tb dm W0 (mkF fn tmps todo defers kind rd) cs cs0 w m' := by
  unfold leave at hm
  split at hm
  · rename_i xfn xd xdf
    obtain ⟨hje, hm⟩ := bf_some hm
    injection hm with hm
    subst hm
    have hrd : rd = none := hf.round
    refine ⟨ρ, lo, _, cs, w, .one (st_leave_none hl ?_ hrd), k, hlo, hf.toRet he _, hcs⟩
    cases j with
    | none => exact .inl hj
    | some j =>
      cases j with
      | ret => exact .inr hj
      | exit id => simp [jEnds] at hje
  · rename_i xfn xd xdf lp
    rw [getObj_eq] at hm
    split at hm
    · rename_i st pend g env' ps asg body d c as' hg
      cases hxdf : xdf with
      | true => rw [hxdf] at hm; cases hm
      | false =>
        rw [hxdf] at hm
        simp only [bf_false] at hm
        split at hm
        · rename_i c' hc
          injection hm with hm
          subst hm
          obtain ⟨r, hr, hrd⟩ := hf.round
          have hkind := hf.kind
          simp only [hxdf] at hkind
          have kl := k.obj _ _ _ hg hr
          obtain ⟨pc, ts, ac, bc, dr, dead, h1, _⟩ := kl.ex
          have hrun := endRound_run (P := P) h1 jc
          have hjn : jc.isNone = jOk j := by
            cases j with
            | none => have : jc = none := hj; rw [this]; rfl
            | some j => cases j <;> (have := hj; simp only [JRel] at this; rw [this]; rfl)
          cases hcs with
          | cons hl' hf' hcs' =>
            rename_i lo' f' fs'
            obtain ⟨k1, f1⟩ := k.loopSet (st' := jSt j) (pend' := j) (L' := { state := if jc.isNone then .ready else .done, pending := jc, fn := g.toNat, tmps := ts, params := (ps.map Pos.toNat).toArray, assign := ac, body := bc, defers := dr.blk }) hr hg h1 (by
              have hst : (if jc.isNone then LoopState.ready else .done) = jSt j := by
                rw [hjn]
                cases j with
                | none => rfl
                | some j => cases j <;> rfl
              simp only [hst]) hj
            have hff := finish_ok hT hf' (v := .bool (jOk j)) (x := .bool jc.isNone) (by simp only [VRel]; rw [hjn]) hc
            refine ⟨ρ, lo', _, fs', _, .one (st_leave_round hl hrd (by simpa using hkind) hrun), k1, ?_, ?_, hcs'⟩
            · rw [setObj_next]; omega
            · rw [setObj_next]
              exact hff.mono ⟨Rho.le_refl _, fun _ _ => rfl, hlo⟩
        · cases hm
    · cases hm

end
end
end Go.Absm

/- The abstract machine: steps of the model that are met at ranges over functions, and as a frame returns. -/
namespace Go.Absm
noncomputable section
set_option linter.unusedVariables false
set_option linter.unusedSectionVars false

/-- A frame that returns. -/
abbrev mkB (fn : FuncId) (tmps : Array Value) (todo : List Item) (defers : List Deferred) (kind : CallKind) (rd : Option Nat) : Frame :=
  { fn, tmps, todo, defers, mode := .returning, kind, roundOf := rd }

def _root_.Go.Frame.calm (fr : Frame) : Prop := fr.mode = .run ∨ fr.mode = .returning

section
variable {P : Program} {tb : Prg} {dm : T Nat} {w : World} {tmps : Array Value}
variable {fn : FuncId} {defers : List Deferred} {kind : CallKind} {rd : Option Nat} {cs : List Frame} {l : List Item} {todo : List Item}

theorem st_recover {ops : Array Oper} {i : Nat} {rest : List Nat} {o : Oper} (ho : ops[i]? = some o) (hw : Region.wanted o (yielded ops tmps) = true) (hrd : rd = none) (hk : kind = .deferred) {c : Frame} (hc : c.calm)
    (hr : (execOp (evalIn tmps) o).run P w = .ok .recover w) :
    Go.step P (lone (mkF fn tmps (.inRegion ops (i :: rest) :: l) defers kind rd) (c :: cs) w) = .next (lone (mkF fn (putT o.dst .nilIface tmps) (.inRegion ops rest :: l) defers kind rd) (c :: cs) w) := by
  subst hrd hk
  have hno : tryRecover (mkF fn tmps (.inRegion ops (i :: rest) :: l) defers .deferred none) (c :: cs) = none := by
    rcases hc with hc | hc <;> simp [tryRecover, hc]
  refine step_lone_go ?_
  rw [st_op ho hw (.inl rfl), ← finish_region ho]
  simp only [stepG.apply, Sem.runT_eq, hr, GStep.bare_after, if_true, hno, GStep.bare_go]

theorem st_beginR {r : Nat} (hr : rd = some r) {w' : World} (h : (Instr.beginRound r).run P w = .ok () w') :
    Go.step P (lone (mkF fn tmps (.beginRound :: l) defers kind rd) cs w) = .next (lone (mkF fn tmps l defers kind rd) cs w') := by
  subst hr
  refine step_lone_go ?_
  have hh : (do Option.elim (some r) (stuck "beginRound: no round") Instr.beginRound; pure Next.skip : Sem Next).run P w = .ok .skip w' := by
    simp [h]
  simp only [stepG, stepG.exec, stepG.apply, Sem.runT_eq, hh, GStep.bare_after, if_true, Frame.finish, GStep.bare_go]

theorem st_endRF {r : Nat} {jump : Option Code} {w' : World} (h : (Instr.endLoop r).run P w = .ok jump w') :
    Go.step P (lone (mkF fn tmps (.endRangeFunc r :: l) defers kind rd) cs w) = .next (lone (mkF fn tmps ((jump.map Item.code).toList ++ l) defers kind rd) cs w') :=
  step_lone_go (by simp [stepG, stepG.exec, Sem.runT_eq, h, GStep.bare_after])

theorem st_rangeFunc {g : Operand} {ps : Array Tmp} {assign body : Code} {lp : Nat} {mark : List Deferred} {w₁ : World} {f : FuncId} {first cap : Array Value}
    (he : (Instr.enterLoop fn tmps ps assign body rd).run P w = .ok (lp, mark) w₁) (hg : evalIn tmps g = .func (.func f) first cap) (hf : runsB P f = true) :
    Go.step P (lone (mkF fn tmps (.code (.rangeFunc g ps assign body) :: l) defers kind rd) cs w) =
      .next (lone (Frame.enter P f (first ++ #[.func (.yield lp) #[] #[]] ++ cap) .normal) (mkF fn tmps (.inRangeFunc lp :: l) (mark ++ defers) kind rd :: cs) w₁) := by
  refine step_lone_go ?_
  have hev := Frame.eval_eq (mkF fn tmps (.inRangeFunc lp :: l) (mark ++ defers) kind rd)
  simp only at hev
  have hrun : (do let d ← resolve (evalIn tmps) { callee := .value g, args := #[.const (.func (.yield lp) #[] #[])], argTypes := #[] } 0; invoke d.target d.args : Sem Next).run P w₁ = .ok (.enter f (first ++ #[.func (.yield lp) #[] #[]] ++ cap)) w₁ := by
    simp only [resolve, hg, Deferred.ofValue, Sem.run_bind, Sem.run_pure, Result.andThen_ok, invoke]
    have e : Array.map (evalIn tmps) #[Operand.const (.func (.yield lp) #[] #[])] = #[.func (.yield lp) #[] #[]] := by simp [evalIn]
    rw [e]
    exact callFunc_run hf _
  simp only [stepG, stepG.exec, stepG.apply, Sem.runT_eq, he, hev, GStep.bare_after, if_true, hrun, GStep.bare_go]

/-! ### A frame returns -/
theorem st_taken {b : Nat} {as : Array Value} {ds calls : List Deferred} {w' : World} (h : (Instr.takeDeferred b).run P w = .ok calls w') :
    Go.step P (lone (mkB fn tmps todo ({ target := .collected b, args := as } :: ds) kind rd) cs w) = .next (lone (mkB fn tmps todo (calls ++ ds) kind rd) cs w') :=
  step_lone_go (by simp [stepG, unwind, Sem.runT_eq, h, GStep.bare_after])

theorem st_callDef {f : FuncId} {args cap : Array Value} {ds : List Deferred} (hf : runsB P f = true) :
    Go.step P (lone (mkB fn tmps todo ({ target := .fn (.func f) cap, args := args } :: ds) kind rd) cs w) = .next (lone (Frame.enter P f (args ++ cap) .deferred) (mkB fn tmps todo ds kind rd :: cs) w) := by
  refine step_lone_go ?_
  have hrun : (invoke (.fn (.func f) cap) args).run P w = .ok (.enter f (args ++ cap)) w := by
    simp only [invoke]
    exact callFunc_run hf _
  simp [stepG, unwind, callDeferred, Sem.runT_eq, hrun, GStep.bare_after]

theorem st_back {fnn : Func} (hf : P.funcs[fn]? = some fnn) {v : Value} (hr : (Go.results fnn tmps).run P w = .ok v w) {c : Frame} (hk : kind = .normal ∨ (kind = .deferred ∧ c.calm)) :
    Go.step P (lone (mkB fn tmps todo [] kind rd) (c :: cs) w) = .next (lone (if kind = .deferred then c else c.finish v) cs w) := by
  refine step_lone_go ?_
  rcases hk with rfl | ⟨rfl, hc⟩
  · simp [stepG, unwind, hf, Sem.runT_eq, hr, GStep.bare_after, doReturn]
  · rcases hc with hc | hc <;> simp [stepG, unwind, hf, Sem.runT_eq, hr, GStep.bare_after, doReturn, hc]

end
end
end Go.Absm

/- The abstract machine: a step is sound. -/
namespace Go.Absm
noncomputable section
set_option linter.unusedVariables false
set_option linter.unusedSectionVars false

section
variable {P : Program} {tb : Prg} {dm : T Nat} {W0 w : World} {ρ ρ' : Rho} {lo nx nx' : Nat} {h h' : AHeap} {env : T AV} {tmps : Array Value}
variable {f : Pos} {fn : FuncId} {defers : List Deferred} {kind : CallKind} {rd : Option Nat} {cs : List Frame} {as : List AFrame} {cs0 : List Frame} {l : List Item} {todo : List Item} {x : FX} {k : List AItem}

theorem PL1.toPL {dead : Nat → Bool} (h : PL1 P tb dm dead ρ f k l) : PL (kOf P tb dm) dead ρ f k l := by
  cases h with
  | nil => exact .nil
  | code _ h1 h2 => exact .code h1 h2
  | jump h1 h2 => exact .jump h1 h2
  | inBlock id h => exact .inBlock id h
  | inLoop h1 h2 => exact .inLoop h1 h2
  | endRF h1 h2 => exact .endRF h1 h2
  | beginR h => exact .beginR h

/-- The same frame with other things to do. -/
theorem FmRel.turn {mode : AMode} {fr : Frame} (hf : FmRel P tb dm ρ lo nx ⟨x, env, k, mode⟩ fr) {env' : T AV} {k' : List AItem} {tmps' : Array Value} {l' : List Item} (hsz : tmps'.size = ntOf P x.fn) (le : ρ.le ρ')
    (ht : TRel P tb (kOf P tb dm) (bit (maskOf dm x.fn)) (ntOf P x.fn) ρ' lo nx' x.fn env' tmps' k' l') : FmRel P tb dm ρ' lo nx' ⟨x, env', k', .run⟩ (mkF fr.fn tmps' l' fr.defers fr.kind fr.roundOf) :=
  ⟨hf.fn, hsz, fun _ => ⟨rfl, ht⟩, fun hm => by simp at hm, hf.defers.mono le, hf.kind, hf.round.mono le⟩

theorem goCall_ok (hT : TblOk P tb dm) (k : Inv P (kOf P tb dm) W0 ρ h w) (hlo : lo ≤ h.next.toNat) {a0 : AFrame} {ops : Array Oper} {i : Nat} {rest : List Nat} {o : Oper} (hf : FmRel P tb dm ρ lo h.next.toNat a0 (mkF fn tmps (.inRegion ops (i :: rest) :: l) defers kind rd)) (hcs : CsRel P tb dm ρ lo as cs)
    (ho : ops[i]? = some o) (hw : Region.wanted o (yielded ops tmps) = true) {R : R} (hc : CallOk P w ρ (evalIn tmps) o R) {m' : AM} (hm : goCall tb R a0 as h = some m') : Sim P tb dm W0 (mkF fn tmps (.inRegion ops (i :: rest) :: l) defers kind rd) cs cs0 w m' := by
  cases R with
  | en g vs =>
    by_cases hr : runsB P g.toNat = true
    · obtain ⟨args, h1, h2⟩ := hc hr
      exact goCall_en hT k hlo hf hcs h2 (fun _ => st_enter ho hw h1) hm
    · simp only [goCall] at hm
      split at hm
      · rename_i gg hg
        -- the function's entry is checked
        unfold enter at hg
        split at hg
        · rename_i na c res hfn
          have hok := hT.fns g
          unfold fnOk at hok
          rw [hfn] at hok
          simp only at hok
          split at hok
          · rename_i fnn hfn
            split at hok
            · rename_i C hC
              simp only [Bool.and_eq_true] at hok
              exact absurd (by simp [runsB, hfn, hC, hok.1.1.1.1]) hr
            · cases hok
          · cases hok
        · cases hg
      · cases hm
  | yl p vs =>
    obtain ⟨r, args, h1, h2, h3⟩ := hc
    exact goCall_yl hT k hlo hf hcs h1 h3 (fun g ts asg body hy => st_round ho hw (h2.trans hy)) hm
  | v _ _ => cases hm
  | df _ => cases hm
  | rc => cases hm
  | no => cases hm

/-- A step at a region in order. -/
theorem step_ops (hT : TblOk P tb dm) (ki : Inv P (kOf P tb dm) W0 ρ h w) (hlo : lo ≤ h.next.toNat) {sc : List AV} {c : Pos} {n : Nat} (hf : FmRel P tb dm ρ lo h.next.toNat ⟨x, env, .ops sc c n :: k, .run⟩ (mkF fn tmps todo defers kind rd)) (hcs : CsRel P tb dm ρ lo as cs)
    {m' : AM} (hm : stepOps sc c n tb x env k as h = some m') : Sim P tb dm W0 (mkF fn tmps todo defers kind rd) cs cs0 w m' := by
  have ht := (hf.run rfl).2
  simp only at ht
  cases ht with
  | pl _ hp => exact absurd (hp.noWait _ _ rfl) (by simp [isWait])
  | ops he hp hcd hok hs =>
    rename_i l ops L ds
    unfold stepOps at hm
    rw [hcd] at hm
    simp only at hm
    have hres := ops_run (K := kOf P tb dm) (l := l) (fn := fn) (defers := defers) (kind := kind) (rd := rd) (cs := cs ++ cs0) (dropA n L) n ds sc env h ρ w tmps hok ki he hs hf.size
    cases hro : runOps (dropA n L) sc env h n with
    | no => rw [hro] at hm; cases hm
    | done e' h' =>
      rw [hro] at hm hres
      simp only [stepRO] at hm
      injection hm with hm
      subst hm
      obtain ⟨ρ', t', w', h1, h2, h3, h4, h5⟩ := hres
      refine ⟨ρ', lo, _, cs, w', h1.trans (.one st_region_end), h2, Nat.le_trans hlo h5.next, hf.turn h4 h5.le (.pl h3 (hp.mono h5.le)), hcs.mono h5.le fun id hid => h5.only id (by omega)⟩
    | call R sc' d k' e' h' =>
      rw [hro] at hm hres
      simp only [stepRO] at hm
      obtain ⟨n', o', ds', ρ', t', w', rfl, e2, h1, h2, h3, h4, h5, h6, h7, h8, h9, h10, h11, h12⟩ := hres
      have hdrop : dropA (n' + 1 - n) (dropA n L) = dropA (n' + 1) L := by
        rw [dropA_eq, dropA_eq, dropA_eq, List.drop_drop]
        congr 1
        omega
      rw [hdrop] at h5
      have hcs' := hcs.mono h12.le fun id hid => h12.only id (by omega)
      have hlo' := Nat.le_trans hlo h12.next
      -- behind an operation that comes to a value
      have after : ∀ (v : AV) (xv : Value), VRel ρ' v xv → EnvRel ρ' (bit (maskOf dm x.fn)) (putD e' d v) (putT o'.dst xv t') ∧ ScRel ρ' (o'.dst :: ds') (v :: sc') (putT o'.dst xv t') := by
        intro v xv hv
        refine ⟨h10.put h11 h4 hv, h6.putT hv fun t ht => ?_⟩
        rw [ht] at h4
        rw [h11]
        cases d with
        | none => simp only [dstOk, Bool.and_eq_true, blt_iff] at h4; exact h4.2
        | some p => simp only [dstOk, Bool.and_eq_true, blt_iff] at h4; exact h4.2
      unfold stepCall at hm
      split at hm
      · rename_i a
        split at hm
        · rename_i xfn xd xdf
          injection hm with hm
          subst hm
          obtain ⟨D, d1, d2⟩ := h7
          have hrd : rd = none := hf.round
          obtain ⟨q1, q2⟩ := after (.tup []) undef (by simp only [VRel]; exact ⟨#[], rfl, by simp⟩)
          refine ⟨ρ', lo, _, cs, w', h1.trans (.one (st_defer h2 h3 hrd d1)), h9, hlo', ⟨hf.fn, by rw [putT_size]; exact h11, fun _ => ⟨rfl, .ops q1 (hp.mono h12.le) hcd h5 q2⟩, fun hm => by simp at hm, ?_, hf.kind, hf.round.mono h12.le⟩, hcs'⟩
          exact ⟨D, defers, rfl, d2, hf.defers.mono h12.le⟩
        · cases hm
      · unfold stepRecover at hm
        split at hm
        · rename_i xfn xd x' env' k' md as'
          injection hm with hm
          subst hm
          have hrd : rd = none := hf.round
          have hk : kind = .deferred := by simpa using hf.kind
          obtain ⟨q1, q2⟩ := after .nili .nilIface (by simp only [VRel])
          cases hcs' with
          | cons hl2 hf2 hcs2 =>
            rename_i lo2 f2 fs2
            have hcalm : f2.calm := by
              cases md with
              | run => exact .inl (hf2.run rfl).1
              | ret => exact .inr (hf2.ret rfl).1
            refine ⟨ρ', lo, _, f2 :: fs2, w', h1.trans (.one (st_recover h2 h3 hrd hk hcalm h7)), h9, hlo', ⟨hf.fn, by rw [putT_size]; exact h11, fun _ => ⟨rfl, .ops q1 (hp.mono h12.le) hcd h5 q2⟩, fun hm => by simp at hm, hf.defers.mono h12.le, hf.kind, hf.round.mono h12.le⟩, .cons hl2 hf2 hcs2⟩
        · cases hm
      · refine Sim.head h1 (goCall_ok hT h9 hlo' ?_ hcs' h2 h3 h7 hm)
        exact hf.turn h11 h12.le (.opsW h10 (hp.mono h12.le) hcd h2 h4 h5 h6)

/-- A step at a region that draws. -/
theorem step_dr (hT : TblOk P tb dm) (ki : Inv P (kOf P tb dm) W0 ρ h w) (hlo : lo ≤ h.next.toNat) {c : Pos} {n : Nat} (hf : FmRel P tb dm ρ lo h.next.toNat ⟨x, env, .dr c n :: k, .run⟩ (mkF fn tmps todo defers kind rd)) (hcs : CsRel P tb dm ρ lo as cs)
    {m' : AM} (hm : stepDr c n tb x env k as h = some m') : Sim P tb dm W0 (mkF fn tmps todo defers kind rd) cs cs0 w m' := by
  have ht := (hf.run rfl).2
  simp only at ht
  cases ht with
  | pl _ hp => exact absurd (hp.noWait _ _ rfl) (by simp [isWait])
  | dr hp hcd hlt hnd hph hend dr =>
    rename_i l ops ph prev evs evd A B
    unfold stepDr at hm
    rw [hcd] at hm
    simp only at hm
    have hres := draw_run (K := kOf P tb dm) (l := l) (fn := fn) (defers := defers) (kind := kind) (rd := rd) (cs := cs ++ cs0) hlt hnd (dropA n ph) prev evs evd env h ρ w tmps A B n hph hend dr ki hf.size hlo
    cases hro : runDraw (dropA n ph) env h n with
    | no => rw [hro] at hm; cases hm
    | done e' h' =>
      rw [hro] at hm hres
      simp only [stepRD] at hm
      injection hm with hm
      subst hm
      obtain ⟨ρ', t', w', h1, h2, h3, h4, h5, h6, h7⟩ := hres
      exact ⟨ρ', lo, _, cs, w', h1.trans (.one st_region_end), h2, Nat.le_trans hlo h7, hf.turn h4 h5 (.pl h3 (hp.mono h5)), hcs.mono h5 h6⟩
    | call R d k' e' h' =>
      rw [hro] at hm hres
      simp only [stepRD] at hm
      obtain ⟨i, o, evs', evd', A', B', ρ', t', w', e1, h1, h2, h3, h4, h5, h6, h7, h8, h9, h10, h11, h12, h13⟩ := hres
      refine Sim.head h1 (goCall_ok hT h9 (Nat.le_trans hlo h13) ?_ (hcs.mono h11 h12) h3 h5 h6 hm)
      refine hf.turn h10 h11 (.drW (hp.mono h11) hcd hlt hnd ?_ h3 h4 h8)
      rw [dropA_eq] at h2
      rw [dropA_eq]
      rw [List.drop_drop] at h2
      have : n + (k' - n) = k' := by omega
      rw [this] at h2
      exact h2

end
end
end Go.Absm

/- The abstract machine: each step is sound. -/
namespace Go.Absm
noncomputable section
set_option linter.unusedVariables false
set_option linter.unusedSectionVars false

section
variable {P : Program} {tb : Prg} {dm : T Nat} {W0 w : World} {ρ ρ' : Rho} {lo nx nx' : Nat} {h h' : AHeap} {env : T AV} {tmps : Array Value}
variable {f : Pos} {fn : FuncId} {defers : List Deferred} {kind : CallKind} {rd : Option Nat} {cs : List Frame} {as : List AFrame} {cs0 : List Frame} {l : List Item} {todo : List Item} {x : FX} {k : List AItem}

/-- A step that turns nothing but what is to be done. -/
theorem Sim.turn (ki : Inv P (kOf P tb dm) W0 ρ h w) (hlo : lo ≤ h.next.toNat) {kk : List AItem} (hf : FmRel P tb dm ρ lo h.next.toNat ⟨x, env, kk, .run⟩ (mkF fn tmps todo defers kind rd)) (he : EnvRel ρ (bit (maskOf dm x.fn)) env tmps) (hcs : CsRel P tb dm ρ lo as cs)
    (hs : Go.step P (lone (mkF fn tmps todo defers kind rd) (cs ++ cs0) w) = .next (lone (mkF fn tmps l defers kind rd) (cs ++ cs0) w)) (hp : PL (kOf P tb dm) (bit (maskOf dm x.fn)) ρ x.fn k l) : Sim P tb dm W0 (mkF fn tmps todo defers kind rd) cs cs0 w ⟨⟨x, env, k, .run⟩, as, h⟩ :=
  ⟨ρ, lo, _, cs, w, .one hs, ki, hlo, hf.turn hf.size (Rho.le_refl _) (.pl he hp), hcs⟩

theorem step_exit' (hT : TblOk P tb dm) (ki : Inv P (kOf P tb dm) W0 ρ h w) (hlo : lo ≤ h.next.toNat) {kk : List AItem} {id : Nat} (hf : FmRel P tb dm ρ lo h.next.toNat ⟨x, env, kk, .run⟩ (mkF fn tmps (.code (.exit id) :: l) defers kind rd)) (he : EnvRel ρ (bit (maskOf dm x.fn)) env tmps)
    (hcs : CsRel P tb dm ρ lo as cs) (hp : PL (kOf P tb dm) (bit (maskOf dm x.fn)) ρ x.fn k l) {m' : AM} (hm : stepExit id x env k as h = some m') : Sim P tb dm W0 (mkF fn tmps (.code (.exit id) :: l) defers kind rd) cs cs0 w m' := by
  obtain ⟨h1, h2⟩ := exit_pl hp id
  unfold stepExit at hm
  split at hm
  · rename_i k' hk
    injection hm with hm
    subst hm
    obtain ⟨l', g1, g2⟩ := h1 k' hk
    exact Sim.turn ki hlo hf he hcs (st_exit g1) g2
  · rename_i hk
    exact leave_ok hT ki hlo hf he hcs (j := some (.exit id)) (jc := some (.exit id)) rfl (.inr (.inr ⟨id, l, rfl, rfl, h2 hk⟩)) hm

theorem psOk_spec {dead : Nat → Bool} {nt : Nat} : ∀ {ts : List Nat} {ps : List Pos}, psOk dead nt ts ps = true → ts = ps.map Pos.toNat ∧ ∀ p ∈ ps, dead p.toNat = false ∧ p.toNat < nt
  | [], [], _ => ⟨rfl, by simp⟩
  | t :: ts, p :: ps, h => by
    simp only [psOk, Bool.and_eq_true, beq_iff, Bool.not_eq_true', blt_iff] at h
    obtain ⟨⟨⟨h1, h2⟩, h3⟩, h4⟩ := h
    obtain ⟨g1, g2⟩ := psOk_spec h4
    subst h1
    refine ⟨by simp [g1], fun q hq => ?_⟩
    rcases List.mem_cons.1 hq with rfl | hq
    · exact ⟨h2, h3⟩
    · exact g2 q hq
  | [], _ :: _, h => by simp [psOk] at h
  | _ :: _, [], h => by simp [psOk] at h

/-- A range over a function begins. -/
theorem step_rf (hT : TblOk P tb dm) (ki : Inv P (kOf P tb dm) W0 ρ h w) (hlo : lo ≤ h.next.toNat) {kk : List AItem} {g : Operand} {ts : Array Tmp} {A B : Code} {F : Opd} {ps : List Pos} {a b : Pos} (hf : FmRel P tb dm ρ lo h.next.toNat ⟨x, env, kk, .run⟩ (mkF fn tmps (.code (.rangeFunc g ts A B) :: l) defers kind rd))
    (he : EnvRel ρ (bit (maskOf dm x.fn)) env tmps) (hcs : CsRel P tb dm ρ lo as cs) (hp : PL (kOf P tb dm) (bit (maskOf dm x.fn)) ρ x.fn k l) (hg : opdM P [] g F = true) (hps : psOk (bit (maskOf dm x.fn)) (ntOf P x.fn) ts.toList ps = true)
    (ha : codeOk P tb (bit (maskOf dm x.fn)) (ntOf P x.fn) A a = true) (hb : codeOk P tb (bit (maskOf dm x.fn)) (ntOf P x.fn) B b = true) {m' : AM} (hm : stepRF (ev F [] env) ps a b tb x env k as h = some m') :
    Sim P tb dm W0 (mkF fn tmps (.code (.rangeFunc g ts A B) :: l) defers kind rd) cs cs0 w m' := by
  have hv := opdM_sound ki (ScRel.nil ρ [] tmps) he.val hg
  obtain ⟨hps1, hps2⟩ := psOk_spec hps
  have hts : ts = (ps.map Pos.toNat).toArray := by rw [← hps1]
  have hfn : fn = x.fn.toNat := hf.fn
  unfold stepRF at hm
  split at hm
  · rename_i gf first cap hev
    rw [hev] at hv
    simp only [VRel] at hv
    obtain ⟨first', cap', hv, hv1, hv2⟩ := hv
    have hpsz : ∀ p ∈ ps, bit (maskOf dm x.fn) p.toNat = false ∧ p.toNat < tmps.size := fun p hpp => by
      have hsz : tmps.size = ntOf P x.fn := hf.size
      rw [hsz]; exact hps2 p hpp
    split at hm
    · rename_i xfn xd xdf
      simp only at hm
      -- the block for the rounds' deferred calls
      have hO1 : ORel (kOf P tb dm) (ρ.put h.next ⟨w.heap.size, 0, 0, 0⟩) ⟨w.heap.size, 0, 0, 0⟩ (w.alloc (.deferred (some []))) (.dfs (some [])) := ⟨[], heap_alloc_new _ _, by simp [DRel]⟩
      obtain ⟨k1, f1⟩ := ki.new (oo := .dfs (some [])) (r := ⟨w.heap.size, 0, 0, 0⟩) rfl hO1
      have rl1 := ki.rle f1
      generalize hh1 : newBlock h (.dfs (some [])) = nb1 at hm k1 f1 rl1
      obtain ⟨r1, h1⟩ := nb1
      have hr1 : r1 = h.next := by have := newBlock_fst h (.dfs (some [])); rw [hh1] at this; exact this
      subst hr1
      simp only at hm k1 f1 rl1
      have hρ1 : (ρ.put h.next ⟨w.heap.size, 0, 0, 0⟩) h.next = some ⟨w.heap.size, 0, 0, 0⟩ := Rho.put_self _ _ _
      generalize hρ1' : ρ.put h.next ⟨w.heap.size, 0, 0, 0⟩ = ρ1 at k1 f1 rl1 hρ1
      -- the loop
      have hO2 : ORel (kOf P tb dm) (ρ1.put h1.next ⟨w.heap.size + 1, 0, 0, 0⟩) ⟨w.heap.size + 1, 0, 0, 0⟩ ((w.alloc (.deferred (some []))).alloc (.loop { state := .ready, pending := none, fn := fn, tmps := tmps, params := ts, assign := A, body := B, defers := w.heap.size })) (.loop .ready none xfn env ps a b h.next) := by
        have hnew := heap_alloc_new (w.alloc (.deferred (some []))) (.loop { state := .ready, pending := none, fn := fn, tmps := tmps, params := ts, assign := A, body := B, defers := w.heap.size })
        have hsz : (w.alloc (.deferred (some []))).heap.size = w.heap.size + 1 := by simp
        rw [hsz] at hnew
        have le2 := Rho.le_put (k1.fresh h1.next (Nat.le_refl _)).1 ⟨w.heap.size + 1, 0, 0, 0⟩
        exact ⟨none, tmps, A, B, ⟨w.heap.size, 0, 0, 0⟩, bit (maskOf dm xfn), by rw [hnew, hfn, hts], rfl, (he.mono rl1.le).mono le2, ⟨rfl, ha⟩, ⟨rfl, hb⟩, le2 _ _ hρ1, hpsz, hf.size⟩
      obtain ⟨k2, f2⟩ := k1.new (oo := .loop .ready none xfn env ps a b h.next) (r := ⟨w.heap.size + 1, 0, 0, 0⟩) (by simp) hO2
      have rl2 := k1.rle f2
      generalize hh2 : newBlock h1 (.loop .ready none xfn env ps a b h.next) = nb2 at hm k2 f2 rl2
      obtain ⟨r2, h2⟩ := nb2
      have hr2 : r2 = h1.next := by have := newBlock_fst h1 (.loop .ready none xfn env ps a b h.next); rw [hh2] at this; exact this
      subst hr2
      simp only at hm k2 f2 rl2
      have hρ2 : (ρ1.put h1.next ⟨w.heap.size + 1, 0, 0, 0⟩) h1.next = some ⟨w.heap.size + 1, 0, 0, 0⟩ := Rho.put_self _ _ _
      generalize hρ2' : ρ1.put h1.next ⟨w.heap.size + 1, 0, 0, 0⟩ = ρ2 at k2 f2 rl2 hρ2
      have rl := rl1.trans rl2
      have hrd : rd = none := hf.round
      have hel : (Instr.enterLoop fn tmps ts A B rd).run P w = .ok (w.heap.size + 1, [{ target := .collected w.heap.size, args := #[] }]) ((w.alloc (.deferred (some []))).alloc (.loop { state := .ready, pending := none, fn := fn, tmps := tmps, params := ts, assign := A, body := B, defers := w.heap.size })) := by
        subst hrd
        simp [Instr.enterLoop]
      have hvs : VRelL ρ2 (first ++ ([AV.yld h1.next] ++ cap)) (first' ++ #[Value.func (.yield (w.heap.size + 1)) #[] #[]] ++ cap').toList := by
        simp only [Array.toList_append]
        refine VRelL.append3 (hv1.mono rl.le) ?_ (hv2.mono rl.le)
        refine VRelL.cons'.2 ⟨?_, VRelL.nil.2 rfl⟩
        simp only [VRel]
        exact ⟨⟨w.heap.size + 1, 0, 0, 0⟩, hρ2, rfl⟩
      refine goCall_en hT k2 (Nat.le_trans hlo rl.next) (fr0 := mkF fn tmps (.inRangeFunc (w.heap.size + 1) :: l) ([{ target := .collected w.heap.size, args := #[] }] ++ defers) kind rd) ?_ (hcs.mono rl.le fun id hid => rl.only id (by omega)) hvs (fun hr => st_rangeFunc hel hv hr) hm
      refine ⟨hf.fn, hf.size, fun _ => ⟨rfl, .inRF (he.mono rl.le) hρ2 (hp.mono rl.le)⟩, fun hm => by simp at hm, ?_, hf.kind, hf.round.mono rl.le⟩
      exact ⟨_, defers, rfl, ⟨⟨w.heap.size, 0, 0, 0⟩, rl2.le _ _ hρ1, rfl⟩, hf.defers.mono rl.le⟩
    · rename_i xfn xd xdf l0
      rw [getObj_eq] at hm
      split at hm
      · rename_i st0 pend0 fn0 env0 ps0 asg0 body0 d hg0
        simp only at hm
        obtain ⟨r0, hr0, hrd⟩ := hf.round
        have hrd : rd = some r0.blk := hrd
        have kl := ki.obj _ _ _ hg0 hr0
        obtain ⟨pc0, ts0, ac0, bc0, dr0, dead0, q1, q2, q3, q4, q5, q6, q7⟩ := kl.ex
        have hO2 : ORel (kOf P tb dm) (ρ.put h.next ⟨w.heap.size, 0, 0, 0⟩) ⟨w.heap.size, 0, 0, 0⟩ (w.alloc (.loop { state := .ready, pending := none, fn := fn, tmps := tmps, params := ts, assign := A, body := B, defers := dr0.blk })) (.loop .ready none xfn env ps a b d) := by
          have hnew := heap_alloc_new w (.loop { state := .ready, pending := none, fn := fn, tmps := tmps, params := ts, assign := A, body := B, defers := dr0.blk })
          have le2 := Rho.le_put (ki.fresh h.next (Nat.le_refl _)).1 ⟨w.heap.size, 0, 0, 0⟩
          exact ⟨none, tmps, A, B, dr0, bit (maskOf dm xfn), by rw [hnew, hfn, hts], rfl, he.mono le2, ⟨rfl, ha⟩, ⟨rfl, hb⟩, le2 _ _ q6, hpsz, hf.size⟩
        obtain ⟨k2, f2⟩ := ki.new (oo := .loop .ready none xfn env ps a b d) (r := ⟨w.heap.size, 0, 0, 0⟩) rfl hO2
        have rl := ki.rle f2
        generalize hh2 : newBlock h (.loop .ready none xfn env ps a b d) = nb2 at hm k2 f2 rl
        obtain ⟨r2, h2⟩ := nb2
        have hr2 : r2 = h.next := by have := newBlock_fst h (.loop .ready none xfn env ps a b d); rw [hh2] at this; exact this
        subst hr2
        simp only at hm k2 f2 rl
        have hρ2 : (ρ.put h.next ⟨w.heap.size, 0, 0, 0⟩) h.next = some ⟨w.heap.size, 0, 0, 0⟩ := Rho.put_self _ _ _
        generalize hρ2' : ρ.put h.next ⟨w.heap.size, 0, 0, 0⟩ = ρ2 at k2 f2 rl hρ2
        have hel : (Instr.enterLoop fn tmps ts A B rd).run P w = .ok (w.heap.size, []) (w.alloc (.loop { state := .ready, pending := none, fn := fn, tmps := tmps, params := ts, assign := A, body := B, defers := dr0.blk })) := by
          subst hrd
          simp [Instr.enterLoop, run_getLoop q1]
        have hvs : VRelL ρ2 (first ++ ([AV.yld h.next] ++ cap)) (first' ++ #[Value.func (.yield w.heap.size) #[] #[]] ++ cap').toList := by
          simp only [Array.toList_append]
          refine VRelL.append3 (hv1.mono rl.le) ?_ (hv2.mono rl.le)
          refine VRelL.cons'.2 ⟨?_, VRelL.nil.2 rfl⟩
          simp only [VRel]
          exact ⟨⟨w.heap.size, 0, 0, 0⟩, hρ2, rfl⟩
        refine goCall_en hT k2 (Nat.le_trans hlo rl.next) (fr0 := mkF fn tmps (.inRangeFunc w.heap.size :: l) ([] ++ defers) kind rd) ?_ (hcs.mono rl.le fun id hid => rl.only id (by omega)) hvs (fun hr => st_rangeFunc hel hv hr) hm
        exact ⟨hf.fn, hf.size, fun _ => ⟨rfl, .inRF (he.mono rl.le) hρ2 (hp.mono rl.le)⟩, fun hm => by simp at hm, hf.defers.mono rl.le, hf.kind, hf.round.mono rl.le⟩
      · cases hm
  · cases hm

theorem range_zero {ops : Array Oper} : List.range ops.size = List.range' 0 (ops.size - 0) := by rw [List.range_eq_range']; rfl

/-- A step at code. -/
theorem step_code (hT : TblOk P tb dm) (ki : Inv P (kOf P tb dm) W0 ρ h w) (hlo : lo ≤ h.next.toNat) {kk : List AItem} {c : Pos} {C : Code} (hf : FmRel P tb dm ρ lo h.next.toNat ⟨x, env, kk, .run⟩ (mkF fn tmps (.code C :: l) defers kind rd))
    (he : EnvRel ρ (bit (maskOf dm x.fn)) env tmps) (hcs : CsRel P tb dm ρ lo as cs) (hp : PL (kOf P tb dm) (bit (maskOf dm x.fn)) ρ x.fn k l) (hns : ∀ A, C ≠ .scope A) (hok : codeOk P tb (bit (maskOf dm x.fn)) (ntOf P x.fn) C c = true)
    {m' : AM} (hm : stepCode c tb x env k as h = some m') : Sim P tb dm W0 (mkF fn tmps (.code C :: l) defers kind rd) cs cs0 w m' := by
  unfold stepCode at hm
  cases hn : tb.cd.get c with
  | none => rw [hn] at hm; cases hm
  | some nd =>
    rw [hn] at hm
    simp only at hm
    cases C with
    | scope A => exact absurd rfl (hns A)
    | goto _ => simp [codeOk, hn] at hok
    | refuse _ => simp [codeOk, hn] at hok
    | skip =>
      cases nd <;> simp [codeOk, hn] at hok
      simp only [stepNode] at hm
      injection hm with hm; subst hm
      exact Sim.turn ki hlo hf he hcs st_skip hp
    | label _ =>
      cases nd <;> simp [codeOk, hn] at hok
      simp only [stepNode] at hm
      injection hm with hm; subst hm
      exact Sim.turn ki hlo hf he hcs st_label hp
    | seq A B =>
      cases nd <;> simp [codeOk, hn] at hok
      simp only [stepNode] at hm
      injection hm with hm; subst hm
      exact Sim.turn ki hlo hf he hcs st_seq (.code ⟨rfl, hok.1⟩ (.code ⟨rfl, hok.2⟩ hp))
    | block i A =>
      cases nd <;> simp [codeOk, hn] at hok
      simp only [stepNode] at hm
      injection hm with hm; subst hm
      obtain ⟨h1, h2⟩ := hok
      subst h1
      exact Sim.turn ki hlo hf he hcs st_block (.code ⟨rfl, h2⟩ (.inBlock _ hp))
    | loop A =>
      cases nd <;> simp [codeOk, hn] at hok
      simp only [stepNode] at hm
      injection hm with hm; subst hm
      exact Sim.turn ki hlo hf he hcs st_loop (.code ⟨rfl, hok⟩ (.inLoop ⟨rfl, hok⟩ hp))
    | exit i =>
      cases nd <;> simp [codeOk, hn] at hok
      simp only [stepNode] at hm
      subst hok
      exact step_exit' hT ki hlo hf he hcs hp hm
    | ret =>
      cases nd <;> simp [codeOk, hn] at hok
      simp only [stepNode] at hm
      exact leave_ok hT ki hlo hf he hcs (j := some .ret) (jc := some .ret) rfl (.inr (.inl ⟨l, rfl, rfl⟩)) hm
    | cond X A B =>
      cases nd <;> simp [codeOk, hn] at hok
      simp only [stepNode] at hm
      obtain ⟨⟨h1, h2⟩, h3⟩ := hok
      have hv := opdM_sound ki (ScRel.nil ρ [] tmps) he.val h1
      unfold stepCond at hm
      split at hm
      · rename_i t hev
        rw [hev] at hv
        simp only [VRel] at hv
        injection hm with hm; subst hm
        refine Sim.turn ki hlo hf he hcs (st_cond hv) (.code ⟨rfl, ?_⟩ hp)
        cases t
        · exact h3
        · exact h2
      · cases hm
    | rangeFunc g ts A B =>
      cases nd <;> simp [codeOk, hn] at hok
      simp only [stepNode] at hm
      obtain ⟨⟨⟨h1, h2⟩, h3⟩, h4⟩ := hok
      exact step_rf hT ki hlo hf he hcs hp h1 h2 h3 h4 hm
    | region id ops draw =>
      cases nd with
      | ops L =>
        simp [codeOk, hn] at hok
        simp only [stepNode] at hm
        injection hm with hm; subst hm
        obtain ⟨h1, h2⟩ := hok
        subst h1
        refine ⟨ρ, lo, _, cs, w, .one st_region, ki, hlo, hf.turn hf.size (Rho.le_refl _) ?_, hcs⟩
        rw [range_zero]
        exact .ops he hp hn (by simpa [dropA] using h2) (ScRel.nil _ _ _)
      | draw ph =>
        simp [codeOk, hn] at hok
        simp only [stepNode] at hm
        injection hm with hm; subst hm
        obtain ⟨h1, h2⟩ := hok
        subst h1
        simp only [drawOk, Bool.and_eq_true] at h2
        obtain ⟨⟨h3, h4⟩, h5⟩ := h2
        have hst := st_draw (P := P) (w := w) (fn := fn) (tmps := tmps) (defers := defers) (kind := kind) (rd := rd) (cs := cs ++ cs0) (l := l) (id := id) (ops := ops)
        rw [hT.mixed] at hst
        refine ⟨ρ, lo, _, cs, w.drew, .one hst, ki.drew, hlo, hf.turn hf.size (Rho.le_refl _) ?_, hcs⟩
        refine .dr (A := []) (prev := none) (evs := []) (evd := []) hp hn h3 h4 (by simpa [dropA] using h5) rfl ⟨by simpa using sched_of h3 _, fun k v hk _ => he.val k v hk, he.none, fun i hi => by simp at hi, fun i hi => by simp at hi⟩
      | _ => simp [codeOk, hn] at hok

end
end
end Go.Absm

/- The abstract machine: what it runs is what the model runs. -/
namespace Go.Absm
noncomputable section
set_option linter.unusedVariables false
set_option linter.unusedSectionVars false

section
variable {P : Program} {tb : Prg} {dm : T Nat} {W0 w : World} {ρ ρ' : Rho} {lo nx nx' : Nat} {h h' : AHeap} {env : T AV} {tmps : Array Value}
variable {f : Pos} {fn : FuncId} {defers : List Deferred} {kind : CallKind} {rd : Option Nat} {cs : List Frame} {as : List AFrame} {cs0 : List Frame} {l : List Item} {todo : List Item} {x : FX} {k : List AItem}

theorem beginRound_run {r : Nat} {L : Loop} (hw : w.heap[r]? = some (.loop L)) (hs : L.state = .ready) : (Instr.beginRound r).run P w = .ok () { w with heap := w.heap.setIfInBounds r (.loop { L with state := .busy }) } := by
  simp [Instr.beginRound, run_getLoop hw, run_setLoop hw, hs]

theorem endLoop_run {r : Nat} {L : Loop} (hw : w.heap[r]? = some (.loop L)) (hs : L.state ≠ .busy) : (Instr.endLoop r).run P w = .ok L.pending { w with heap := w.heap.setIfInBounds r (.loop { L with state := .exhausted }) } := by
  simp only [Instr.endLoop, Sem.run_bind, run_getLoop hw, Result.andThen_ok]
  have : (L.state == .busy) = false := by cases hl : L.state <;> simp_all
  simp [this, run_setLoop hw]

/-- A step of a frame that runs. -/
theorem step_run (hT : TblOk P tb dm) (ki : Inv P (kOf P tb dm) W0 ρ h w) (hlo : lo ≤ h.next.toNat) (hf : FmRel P tb dm ρ lo h.next.toNat ⟨x, env, k, .run⟩ (mkF fn tmps todo defers kind rd)) (hcs : CsRel P tb dm ρ lo as cs)
    {m' : AM} (hm : stepRun k tb x env as h = some m') : Sim P tb dm W0 (mkF fn tmps todo defers kind rd) cs cs0 w m' := by
  have ht := (hf.run rfl).2
  simp only at ht
  cases ht with
  | inRF _ _ _ => cases hm
  | opsW _ _ _ _ _ _ _ => cases hm
  | drW _ _ _ _ _ _ _ _ => cases hm
  | ops e1 e2 e3 e4 e5 => exact step_ops hT ki hlo hf hcs hm
  | dr e1 e2 e3 e4 e5 e6 e7 => exact step_dr hT ki hlo hf hcs hm
  | pl he hp =>
    obtain ⟨l', hst, hp1⟩ := pl_norm (fn := fn) (tmps := tmps) (defers := defers) (kind := kind) (rd := rd) (cs := cs ++ cs0) (w := w) hp
    refine Sim.head hst ?_
    have hf' : FmRel P tb dm ρ lo h.next.toNat ⟨x, env, k, .run⟩ (mkF fn tmps l' defers kind rd) := hf.turn hf.size (Rho.le_refl _) (.pl he hp1.toPL)
    cases hp1 with
    | nil => exact leave_ok hT ki hlo hf' he hcs (j := none) (jc := none) rfl (.inl ⟨rfl, rfl⟩) hm
    | code hns hok hp2 => exact step_code hT ki hlo hf' he hcs hp2 hns hok.2 hm
    | jump hj hp2 =>
      rename_i k l j C
      cases j with
      | exit id =>
        have : C = .exit id := by simpa [JRel] using hj
        subst this
        exact step_exit' hT ki hlo hf' he hcs hp2 hm
      | ret =>
        have : C = .ret := by simpa [JRel] using hj
        subst this
        exact leave_ok hT ki hlo hf' he hcs (j := some .ret) (jc := some .ret) rfl (.inr (.inl ⟨l, rfl, rfl⟩)) hm
    | inBlock id hp2 =>
      simp only [stepRun, stepItem] at hm
      injection hm with hm; subst hm
      exact Sim.turn ki hlo hf' he hcs st_inBlock hp2
    | inLoop hok hp2 =>
      simp only [stepRun, stepItem] at hm
      injection hm with hm; subst hm
      exact Sim.turn ki hlo hf' he hcs st_inLoop (.code hok (.inLoop hok hp2))
    | endRF hr hp2 =>
      rename_i k l p r
      simp only [stepRun, stepItem, stepEndRF] at hm
      rw [getObj_eq] at hm
      split at hm
      · rename_i st pend g env' ps asg body d hg
        have kl := ki.obj _ _ _ hg hr
        obtain ⟨pc, ts, ac, bc, dr, dead, h1, h2, _⟩ := kl.ex
        have hnb : st ≠ .busy := fun e => by rw [e] at hm; cases hm
        have hm2 : some (⟨⟨x, env, jumpItem pend ++ k, .run⟩, as, setObj h p (.loop .exhausted pend g env' ps asg body d)⟩ : AM) = some m' := by
          cases st <;> first | exact hm | exact absurd rfl hnb
        injection hm2 with hm2
        subst hm2
        obtain ⟨k1, f1⟩ := ki.loopSet (st' := .exhausted) (pend' := pend) (L' := { state := .exhausted, pending := pc, fn := g.toNat, tmps := ts, params := (ps.map Pos.toNat).toArray, assign := ac, body := bc, defers := dr.blk }) hr hg h1 rfl h2
        refine ⟨ρ, lo, _, cs, _, .one (st_endRF (endLoop_run h1 hnb)), k1, by rw [setObj_next]; exact hlo, ?_, hcs⟩
        rw [setObj_next]
        refine hf'.turn hf.size (Rho.le_refl _) (.pl he ?_)
        cases pend with
        | none =>
          have : pc = none := h2
          subst this
          exact hp2
        | some j =>
          cases j with
          | exit id =>
            have : pc = some (.exit id) := h2
            subst this
            exact .jump rfl hp2
          | ret =>
            have : pc = some .ret := h2
            subst this
            exact .jump rfl hp2
      · cases hm
    | beginR hp2 =>
      simp only [stepRun, stepItem, stepBeginR] at hm
      split at hm
      · rename_i lp hlp
        rw [getObj_eq] at hm
        split at hm
        · rename_i pend g env' ps asg body d hg
          injection hm with hm; subst hm
          have hrr := hf.round
          simp only [hlp] at hrr
          obtain ⟨r, hr, hrd⟩ := hrr
          have kl := ki.obj _ _ _ hg hr
          obtain ⟨pc, ts, ac, bc, dr, dead, h1, h2, _⟩ := kl.ex
          obtain ⟨k1, f1⟩ := ki.loopSet (st' := .busy) (pend' := pend) (L' := { state := .busy, pending := pc, fn := g.toNat, tmps := ts, params := (ps.map Pos.toNat).toArray, assign := ac, body := bc, defers := dr.blk }) hr hg h1 rfl h2
          refine ⟨ρ, lo, _, cs, _, .one (st_beginR hrd (beginRound_run h1 rfl)), k1, by rw [setObj_next]; exact hlo, ?_, hcs⟩
          rw [setObj_next]
          exact hf'.turn hf.size (Rho.le_refl _) (.pl he hp2)
        · cases hm
      · cases hm

/-! ### Frames that return -/
def res1 (tmps : Array Value) : ResultVar → Sem Value
  | .tmp t => pure (tmps.getD t undef)
  | .cell a t => do loadVar t (← asAddr (tmps.getD a undef))

theorem res1_run (ki : Inv P (kOf P tb dm) W0 ρ h w) (he : ∀ p v, env.get p = some v → VRel ρ v (tmps.getD p.toNat undef)) {r : ResultVar} {a : ARes} {v : AV} (hok : resOk P [r] [a] = true) (hr : result1 h env a = some v) :
    ∃ x, (res1 tmps r).run P w = .ok x w ∧ VRel ρ v x := by
  have hev : ∀ p : Pos, VRel ρ (ev (.t p) [] env) (tmps.getD p.toNat undef) := by
    intro p
    simp only [ev]
    cases hg : env.get p with
    | none => simp [orBot]
    | some u => exact he p u hg
  have hload : ∀ (t : TypeId) (ad : Addr), (loadVar t ad).run P w = (Instr.loadAt t (.pointer (some ad))).run P w := by
    intro t ad
    simp [Instr.loadAt, Instr.sureAddr]
  cases r with
  | tmp t =>
    cases a with
    | tmp p =>
      simp only [resOk, Bool.and_true, beq_iff] at hok
      simp only [result1] at hr
      injection hr with hr
      subst hr hok
      exact ⟨_, rfl, hev p⟩
    | _ => simp [resOk] at hok
  | cell ad t =>
    cases a with
    | tmp p => simp [resOk] at hok
    | cell1 p =>
      simp only [resOk, Bool.and_true, Bool.and_eq_true, beq_iff] at hok
      obtain ⟨rfl, hc⟩ := hok
      simp only [result1] at hr
      have hx := hev p
      unfold vLoad1 at hr
      split at hr
      · rename_i id off hp
        rw [hp] at hx
        simp only [VRel] at hx
        obtain ⟨q, hq, hx⟩ := hx
        split at hr
        · rename_i u hl
          obtain ⟨vs, h1, h2, h3⟩ := load_sound ki hq hl
          obtain ⟨y, us, rfl, h4, h5⟩ := VRelL.cons.1 h2
          have hcell := h3 0 y (by simp)
          simp only [Nat.add_zero] at hcell
          injection hr with hr
          subst hr
          refine ⟨y, ?_, h4⟩
          simp [res1, hx, asAddr, loadVar, isCellT_agg hc, hcell]
        · cases hr
      · cases hr
    | cellN n p =>
      simp only [resOk, Bool.and_true, Bool.and_eq_true, beq_iff] at hok
      obtain ⟨⟨rfl, hc⟩, hs⟩ := hok
      simp only [result1] at hr
      have hx := hev p
      unfold vLoadN at hr
      split at hr
      · rename_i id off hp
        rw [hp] at hx
        simp only [VRel] at hx
        obtain ⟨q, hq, hx⟩ := hx
        split at hr
        · rename_i lst hl
          obtain ⟨vs, h4, h5, h6⟩ := load_sound ki hq hl
          unfold isRowT at hc
          split at hc
          · rename_i d hd
            unfold szIs at hs
            split at hs
            · rename_i i hi
              have hsz : i.size = n := beq_iff.1 hs
              injection hr with hr
              subst hr
              refine ⟨.agg vs.toArray, ?_, by simp only [VRel]; exact ⟨_, rfl, by simpa using h5⟩⟩
              have := run_loadAt_mid w q.blk (q.base + off) t vs d h6 hd hc (by rw [hi]; simp [hsz, h4])
              simp [res1, hx, asAddr, hload, this]
            · cases hs
          · cases hc
        · cases hr
      · cases hr

theorem result_run (ki : Inv P (kOf P tb dm) W0 ρ h w) (he : ∀ p v, env.get p = some v → VRel ρ v (tmps.getD p.toNat undef)) : ∀ {rs : List ResultVar} {ars : List ARes} {vs : List AV}, resOk P rs ars = true → results h env ars = some vs →
    ∃ xs : List Value, (rs.mapM (res1 tmps)).run P w = .ok xs w ∧ VRelL ρ vs xs
  | [], [], vs, _, hr => by
    simp only [results] at hr
    injection hr with hr
    subst hr
    exact ⟨[], by simp, by simp⟩
  | r :: rs, a :: ars, vs, hok, hr => by
    have hsplit : resOk P [r] [a] = true ∧ resOk P rs ars = true := by
      cases r <;> cases a <;> simp_all [resOk]
    simp only [results] at hr
    split at hr
    · rename_i v vs' h1 h2
      injection hr with hr
      subst hr
      obtain ⟨x, q1, q2⟩ := res1_run ki he hsplit.1 h1
      obtain ⟨xs, g1, g2⟩ := result_run ki he hsplit.2 h2
      exact ⟨x :: xs, by simp only [List.mapM_cons]; simp [q1, g1], VRelL.cons'.2 ⟨q2, g2⟩⟩
    · cases hr
  | [], _ :: _, _, hok, _ => by simp [resOk] at hok
  | r :: _, [], _, hok, _ => by cases r <;> simp [resOk] at hok

theorem results_ok (ki : Inv P (kOf P tb dm) W0 ρ h w) (he : ∀ p v, env.get p = some v → VRel ρ v (tmps.getD p.toNat undef)) {fnn : Func} {ars : List ARes} {vs : List AV} (hok : resOk P fnn.results.toList ars = true) (hr : results h env ars = some vs) :
    ∃ x, (Go.results fnn tmps).run P w = .ok x w ∧ VRel ρ (tupOf vs) x := by
  obtain ⟨xs, h1, h2⟩ := result_run ki he hok hr
  have hdef : Go.results fnn tmps = (do
      let vs ← fnn.results.mapM (res1 tmps)
      pure (if h : vs.size = 1 then vs[0] else .tuple vs)) := by
    unfold Go.results
    congr 1
  refine ⟨if h : xs.length = 1 then xs[0] else .tuple xs.toArray, by rw [hdef, Array.mapM_eq_mapM_toList]; simp [h1], ?_⟩
  unfold tupOf
  split
  · rename_i v
    obtain ⟨x, us, rfl, h4, h5⟩ := VRelL.cons.1 h2
    simp at h5
    subst h5
    simpa using h4
  · rename_i hne
    have hlen := h2.length
    have hx : ¬ (xs.length = 1) := by
      intro h1
      rw [h1] at hlen
      obtain ⟨v, rfl⟩ := List.length_eq_one_iff.1 hlen.symm
      exact hne v rfl
    simp only [hx, dif_neg, not_false_eq_true, VRel]
    exact ⟨xs.toArray, rfl, by simpa using h2⟩

theorem resultOf_ok (hT : TblOk P tb dm) (ki : Inv P (kOf P tb dm) W0 ρ h w) {g : Pos} (he : ∀ p v, env.get p = some v → VRel ρ v (tmps.getD p.toNat undef)) {v : AV} (hr : resultOf tb g env h = some v) :
    ∃ fnn xv, P.funcs[g.toNat]? = some fnn ∧ (Go.results fnn tmps).run P w = .ok xv w ∧ VRel ρ v xv := by
  unfold resultOf at hr
  split at hr
  · rename_i na c res hf
    have hok := hT.fns g
    unfold fnOk at hok
    rw [hf] at hok
    simp only at hok
    split at hok
    · rename_i fnn hfn
      split at hok
      · rename_i C hC
        simp only [Bool.and_eq_true] at hok
        split at hr
        · rename_i vs hvs
          injection hr with hr
          subst hr
          obtain ⟨x, h1, h2⟩ := results_ok ki he hok.2 hvs
          exact ⟨fnn, x, hfn, h1, h2⟩
        · cases hr
      · cases hok
    · cases hok
  · cases hr

theorem takeDeferred_run {b : Nat} {ds : List Deferred} (hw : w.heap[b]? = some (.deferred (some ds))) : (Instr.takeDeferred b).run P w = .ok ds { w with heap := w.heap.setIfInBounds b (.deferred none) } := by
  have h1 : (Go.getObj b).run P w = .ok (.deferred (some ds)) w := by simp [Go.getObj, Sem.run, hw]
  simp [Instr.takeDeferred, h1, run_setObj hw (by simp : ∀ c t fr, Obj.deferred (some ds) ≠ .cells c t fr)]

theorem DRel.append {a b : List ADef} {x y : List Deferred} (h1 : DRel ρ a x) (h2 : DRel ρ b y) : DRel ρ (a ++ b) (x ++ y) := by
  induction a generalizing x with
  | nil => simp only [DRel] at h1; subst h1; exact h2
  | cons d a ih =>
    obtain ⟨D, x', rfl, g1, g2⟩ := h1
    exact ⟨D, x' ++ y, rfl, g1, ih g2⟩

/-- A step of a frame that returns. -/
theorem step_ret' (hT : TblOk P tb dm) (ki : Inv P (kOf P tb dm) W0 ρ h w) (hlo : lo ≤ h.next.toNat) (hf : FmRel P tb dm ρ lo h.next.toNat ⟨x, env, k, .ret⟩ (mkB fn tmps todo defers kind rd)) (hcs : CsRel P tb dm ρ lo as cs)
    {m' : AM} (hm : stepRet tb x env k as h = some m') : Sim P tb dm W0 (mkB fn tmps todo defers kind rd) cs cs0 w m' := by
  have he := (hf.ret rfl).2
  simp only at he
  have hd := hf.defers
  unfold stepRet at hm
  split at hm
  · rename_i xfn rr ds xdf xrd
    obtain ⟨D, ds', hds, ⟨r, hr, hD⟩, hd2⟩ := hd
    have hds : defers = D :: ds' := hds
    subst hds hD
    rw [getObj_eq] at hm
    split at hm
    · rename_i ld hg
      injection hm with hm
      subst hm
      obtain ⟨ld', h1, h2⟩ := ki.obj _ _ _ hg hr
      obtain ⟨k1, f1⟩ := ki.wrote (oo' := .dfs none) (w' := { w with heap := w.heap.setIfInBounds r.blk (.deferred none) }) hg hr rfl (fun B hB => heap_set_ne _ _ _ _ hB) (by simp) rfl rfl rfl rfl (heap_set_same _ _ _ (ki.bound _ _ hr))
      refine ⟨ρ, lo, _, cs, _, .one (st_taken (takeDeferred_run h1)), k1, by rw [setObj_next]; exact hlo, ?_, hcs⟩
      rw [setObj_next]
      exact ⟨hf.fn, hf.size, fun hm => by simp at hm, fun _ => ⟨rfl, he⟩, h2.append hd2, hf.kind, hf.round⟩
    · cases hm
  · rename_i xfn g vs ds xdf xrd
    obtain ⟨D, ds', hds, ⟨a, b, hD, hab⟩, hd2⟩ := hd
    have hds : defers = D :: ds' := hds
    subst hds hD
    split at hm
    · rename_i gg hg
      injection hm with hm
      subst hm
      obtain ⟨h1, h2⟩ := enter_ok (ρ := ρ) (nx := h.next.toNat) (args := a ++ b) hT hg hab
      refine ⟨ρ, h.next.toNat, _, mkB fn tmps todo ds' kind rd :: cs, w, .one (st_callDef h1), ki, Nat.le_refl _, h2, .cons hlo ?_ hcs⟩
      exact ⟨hf.fn, hf.size, fun hm => by simp at hm, fun _ => ⟨rfl, he⟩, hd2, hf.kind, hf.round⟩
    · cases hm
  · rename_i xfn xdf xrd
    have hd : defers = [] := hd
    subst hd
    unfold stepBack at hm
    split at hm
    · rename_i v c as' hres
      obtain ⟨fnn, xv, g1, g2, g3⟩ := resultOf_ok hT ki he.val hres
      have hfn : fn = xfn.toNat := hf.fn
      subst hfn
      have hkind := hf.kind
      simp only at hkind
      cases hcs with
      | cons hl2 hf2 hcs2 =>
        rename_i lo2 f2 fs2
        cases hxd : xdf with
        | true =>
          rw [hxd] at hm hkind
          simp only [bf_true] at hm
          injection hm with hm
          subst hm
          have hcalm : f2.calm := by
            obtain ⟨cx, cenv, ck, cm⟩ := c
            cases cm with
            | run => exact .inl (hf2.run rfl).1
            | ret => exact .inr (hf2.ret rfl).1
          have hk : kind = .deferred := by simpa using hkind
          have hst := st_back (P := P) (w := w) (fn := xfn.toNat) (tmps := tmps) (todo := todo) (rd := rd) (cs := fs2 ++ cs0) g1 g2 (c := f2) (kind := kind) (.inr ⟨hk, hcalm⟩)
          rw [if_pos hk] at hst
          exact ⟨ρ, lo2, f2, fs2, w, .one hst, ki, Nat.le_trans hl2 hlo, hf2.mono ⟨Rho.le_refl _, fun _ _ => rfl, hlo⟩, hcs2⟩
        | false =>
          rw [hxd] at hm hkind
          simp only [bf_false] at hm
          have hk : kind = .normal := by simpa using hkind
          split at hm
          · rename_i c' hc
            injection hm with hm
            subst hm
            have hst := st_back (P := P) (w := w) (fn := xfn.toNat) (tmps := tmps) (todo := todo) (rd := rd) (cs := fs2 ++ cs0) g1 g2 (c := f2) (kind := kind) (.inl hk)
            rw [if_neg (by rw [hk]; simp)] at hst
            have hff := finish_ok hT hf2 g3 hc
            exact ⟨ρ, lo2, _, fs2, w, .one hst, ki, Nat.le_trans hl2 hlo, hff.mono ⟨Rho.le_refl _, fun _ _ => rfl, hlo⟩, hcs2⟩
          · cases hm
    · cases hm

/-- Each step is sound. -/
theorem step_sound (hT : TblOk P tb dm) {m m' : AM} {fr : Frame} (hM : MRel P tb dm W0 ρ lo m fr cs w) (hs : Absm.step tb m = some m') : Sim P tb dm W0 fr cs cs0 w m' := by
  obtain ⟨⟨x, env, todo, mode⟩, as, h⟩ := m
  obtain ⟨k1, k2, k3, k4⟩ := hM
  obtain ⟨ffn, ftmps, ftodo, fdefers, fmode, fkind, frd⟩ := fr
  cases mode with
  | run =>
    have : fmode = .run := (k3.run rfl).1
    subst this
    exact step_run hT k1 k2 k3 k4 hs
  | ret =>
    have : fmode = .returning := (k3.ret rfl).1
    subst this
    exact step_ret' hT k1 k2 k3 k4 hs

theorem run_sound (hT : TblOk P tb dm) : ∀ (n : Nat) {m m' : AM} {fr : Frame} {cs : List Frame} {w : World} {ρ : Rho} {lo : Nat}, MRel P tb dm W0 ρ lo m fr cs w → Absm.run tb n m = some m' → Sim P tb dm W0 fr cs cs0 w m'
  | 0, m, m', fr, cs, w, ρ, lo, hM, hr => by
    simp only [Absm.run] at hr
    injection hr with hr
    subst hr
    exact ⟨ρ, lo, fr, cs, w, Steps.refl _ _, hM⟩
  | n + 1, m, m', fr, cs, w, ρ, lo, hM, hr => by
    simp only [Absm.run] at hr
    split at hr
    · rename_i m1 h1
      obtain ⟨ρ1, lo1, fr1, cs1, w1, g1, g2⟩ := step_sound (cs0 := cs0) hT hM h1
      obtain ⟨ρ2, lo2, fr2, cs2, w2, e1, e2⟩ := run_sound hT n g2 hr
      exact ⟨ρ2, lo2, fr2, cs2, w2, g1.trans e1, e2⟩
    · cases hr

/-- A piece. -/
theorem piece_sound (hT : TblOk P tb dm) {n : Nat} {s t : AM} (hp : piece tb n s t = true) {fr : Frame} (hM : MRel P tb dm W0 ρ lo s fr cs w) : Sim P tb dm W0 fr cs cs0 w t := by
  unfold piece at hp
  split at hp
  · rename_i m hm
    obtain ⟨ρ1, lo1, fr1, cs1, w1, g1, g2⟩ := run_sound (cs0 := cs0) hT n hM hm
    exact ⟨ρ1, lo1, fr1, cs1, w1, g1, g2.sub hp⟩
  · cases hp

/-- From one state to another. -/
def Goes (P : Program) (tb : Prg) (dm : T Nat) (s t : AM) : Prop :=
  ∀ (W0 : World) (ρ : Rho) (lo : Nat) (fr : Frame) (cs cs0 : List Frame) (w : World), MRel P tb dm W0 ρ lo s fr cs w → Sim P tb dm W0 fr cs cs0 w t

theorem Goes.piece (hT : TblOk P tb dm) {n : Nat} {s t : AM} (hp : piece tb n s t = true) : Goes P tb dm s t := fun _ _ _ _ _ _ _ hM => piece_sound hT hp hM

theorem Goes.trans {s t u : AM} (a : Goes P tb dm s t) (b : Goes P tb dm t u) : Goes P tb dm s u := by
  intro W0 ρ lo fr cs cs0 w hM
  obtain ⟨ρ1, lo1, fr1, cs1, w1, g1, g2⟩ := a W0 ρ lo fr cs cs0 w hM
  obtain ⟨ρ2, lo2, fr2, cs2, w2, e1, e2⟩ := b W0 ρ1 lo1 fr1 cs1 cs0 w1 g2
  exact ⟨ρ2, lo2, fr2, cs2, w2, g1.trans e1, e2⟩

/-- A call of a function without arguments that ends in true. -/
theorem calls_of (hT : TblOk P tb dm) {g : Pos} {s0 s1 : AM} (hgo : Goes P tb dm s0 s1) {fr0 : AFrame} (he : enter tb g [] false = some fr0) (h0 : s0.fr = fr0 ∧ s0.cs = [])
    (h1 : s1.fr.mode = .ret ∧ s1.fr.x.defers = [] ∧ s1.fr.x.dfd = false ∧ s1.fr.x.fn = g ∧ s1.cs = []) (hres : resultOf tb g s1.fr.env s1.h = some (.bool true)) {ρ : Rho} {w : World} (hI : Inv P (kOf P tb dm) w ρ s0.h w) :
    Calls P g.toNat #[] w fun e w' => e = .returned (.bool true) ∧ (∀ B, B < w.heap.size → w'.heap[B]? = w.heap[B]?) ∧ w.heap.size ≤ w'.heap.size ∧ w'.os = w.os ∧ w'.tape = w.tape ∧ w'.output = w.output := by
  intro cs0
  obtain ⟨hr, hf⟩ := enter_ok (ρ := ρ) (nx := s0.h.next.toNat) (args := #[]) hT he (by simp)
  have hM : MRel P tb dm w ρ s0.h.next.toNat s0 (Frame.enter P g.toNat #[] .normal) [] w := by
    refine ⟨hI, Nat.le_refl _, by rw [h0.1]; exact hf, by rw [h0.2]; exact .nil⟩
  obtain ⟨ρ', lo', fr', cs', w', g1, g2⟩ := hgo w ρ _ _ [] cs0 w hM
  obtain ⟨k1, k2, k3, k4⟩ := g2
  obtain ⟨e1, e2, e3, e4, e5⟩ := h1
  rw [e5] at k4
  cases k4
  have he' := k3.ret e1
  obtain ⟨fnn, xv, q1, q2, q3⟩ := resultOf_ok hT k1 he'.2.val hres
  simp only [VRel] at q3
  subst q3
  have hd := k3.defers
  rw [e2] at hd
  have hd : fr'.defers = [] := hd
  have hk := k3.kind
  rw [e3] at hk
  have hfn := k3.fn
  rw [e4] at hfn
  refine ⟨.returned (.bool true), w', fr', ⟨rfl, k1.base, k1.grown, k1.os, k1.tape, k1.output⟩, (by simpa using g1 : Steps _ _ _), hfn, he'.1, hd, by simpa using hk, fnn, by rw [hfn]; exact q1, q2⟩

end
end
end Go.Absm

/- The abstract machine: a table that is checked function by function; memory as a call begins. -/
namespace Go.Absm
noncomputable section
set_option linter.unusedVariables false
set_option linter.unusedSectionVars false

/-! ### All that a trie holds -/
def T.all {α : Type} : T α → (Pos → Pos) → (Pos → Bool) → Bool
  | .nl, _, _ => true
  | .n v l r, w, c => (match v with | some _ => c (w .z) | none => true) && T.all l (fun p => w (.o p)) c && T.all r (fun p => w (.i p)) c

theorem T.all_spec {α : Type} : ∀ {t : T α} {w : Pos → Pos} {c : Pos → Bool}, T.all t w c = true → ∀ p v, t.get p = some v → c (w p) = true
  | .nl, _, _, _, p, v, h => by simp at h
  | .n v l r, w, c, ha, p, u, h => by
    simp only [T.all, Bool.and_eq_true] at ha
    cases p with
    | z =>
      simp only [T.get_n_z] at h
      subst h
      exact ha.1.1
    | o p => exact T.all_spec ha.1.2 p u (by simpa using h)
    | i p => exact T.all_spec ha.2 p u (by simpa using h)

def okAll (P : Program) (tb : Prg) (dm : T Nat) : List Nat → Bool
  | [] => true
  | k :: l => fnOk P tb (maskOf dm (pos k)) (pos k) && okAll P tb dm l

theorem okAll_mem {P : Program} {tb : Prg} {dm : T Nat} : ∀ {l : List Nat}, okAll P tb dm l = true → ∀ k ∈ l, fnOk P tb (maskOf dm (pos k)) (pos k) = true
  | [], _, k, hk => by simp at hk
  | j :: l, h, k, hk => by
    simp only [okAll, Bool.and_eq_true] at h
    rcases List.mem_cons.1 hk with rfl | hk
    · exact h.1
    · exact okAll_mem h.2 k hk

theorem okAll_append {P : Program} {tb : Prg} {dm : T Nat} : ∀ {a b : List Nat}, okAll P tb dm a = true → okAll P tb dm b = true → okAll P tb dm (a ++ b) = true
  | [], _, _, h => h
  | k :: a, b, h, hb => by
    simp only [okAll, Bool.and_eq_true] at h
    simp only [List.cons_append, okAll, Bool.and_eq_true]
    exact ⟨h.1, okAll_append h.2 hb⟩

def inPos (p : Pos) : List Nat → Bool
  | [] => false
  | k :: l => p.beq (pos k) || inPos p l

theorem inPos_spec {p : Pos} : ∀ {l : List Nat}, inPos p l = true → ∃ k ∈ l, p = pos k
  | [], h => by simp [inPos] at h
  | k :: l, h => by
    simp only [inPos, Bool.or_eq_true] at h
    rcases h with h | h
    · exact ⟨k, List.mem_cons_self .., Pos.beq_iff.1 h⟩
    · obtain ⟨j, hj, e⟩ := inPos_spec h
      exact ⟨j, List.mem_cons_of_mem _ hj, e⟩

theorem tbl_of {P : Program} {tb : Prg} {dm : T Nat} {ks : List Nat} (hm : P.follows .mixedOrders = true) (hk : T.all tb.fns (fun p => p) (fun p => inPos p ks) = true) (ho : okAll P tb dm ks = true) : TblOk P tb dm := by
  refine ⟨hm, fun f => ?_⟩
  cases hf : tb.fns.get f with
  | none => simp [fnOk, hf]
  | some v =>
    obtain ⟨k, hk', rfl⟩ := inPos_spec (T.all_spec hk f v hf)
    exact okAll_mem ho k hk'

/-! ### Variables that hold strings -/
def strData (bs : List (List UInt8)) : DataW Unit := .agg (bs.map fun b => .lit (.string b))
def strVals (bs : List (List UInt8)) : Array Value := (bs.map fun b => Value.string ⟨b.toArray⟩).toArray

theorem trod_str {P : Program} {w : World} {base : Nat} {sp : Nat → Bool} {held : Bool} {fuel : Nat} {t : TypeId} {cs : List Value} {d : DataW Unit} {p : List MemPlace} {enc : TypeId × Value → Unit} (ht : P.underlying t = some .string)
    (h : DataW.trod enc P w base sp held fuel t cs = some (d, p)) : ∃ s : ByteArray, cs = [.string s] ∧ d = .lit (.string s.data.toList) := by
  cases fuel with
  | zero => simp [DataW.trod] at h
  | succ fuel =>
    simp only [DataW.trod, ht] at h
    split at h <;> simp_all

theorem cells_of_strs {enc : TypeId × Value → Unit} {P : Program} {w : World} {base : Nat} {sp : Nat → Bool} {held : Bool} {fuel : Nat} {t e : TypeId} {n : Nat} {cs : List Value} {bs : List (List UInt8)} {p : List MemPlace}
    (ht : P.underlying t = some (.array n e)) (he : P.underlying e = some .string) (hce : P.cellsOf e = 1) (hct : P.cellsOf t = n)
    (h : DataW.trod enc P w base sp held fuel t cs = some (strData bs, p)) : cs = bs.map fun b => Value.string ⟨b.toArray⟩ := by
  cases fuel with
  | zero => simp [DataW.trod] at h
  | succ fuel =>
    simp only [DataW.trod, ht, hce, hct, Nat.mul_one] at h
    split at h
    · rename_i hl
      obtain ⟨xs, hm, hx⟩ := Option.map_eq_some_iff.1 h
      have hxs : xs.map (·.1) = bs.map fun b => (DataW.lit (.string b) : DataW Unit) := by
        have := congrArg Prod.fst hx
        simpa [strData] using this
      have hxl : xs.length = n := by simpa using Lib.mapM_length hm
      have hzl : bs.length = n := by
        have := congrArg List.length hxs
        simp at this
        omega
      apply List.ext_getElem?
      intro i
      by_cases hi : i < n
      · obtain ⟨b, hb, hf⟩ := Lib.mapM_at hm i i (by simp [hi])
        obtain ⟨s, hc, hd⟩ := trod_str (d := b.1) (p := b.2) he hf
        have h1 : cs[i]? = some (.string s) := by
          have := congrArg (·[0]?) hc
          simpa [List.getElem?_take, List.getElem?_drop] using this
        have h2 : (xs.map (·.1))[i]? = some (DataW.lit (.string s.data.toList) : DataW Unit) := by simp [hb, hd]
        rw [hxs] at h2
        simp only [List.getElem?_map, Option.map_eq_some_iff, DataW.lit.injEq, Lit.string.injEq] at h2
        obtain ⟨z', hz', hs⟩ := h2
        simp [h1, hz', hs]
      · rw [List.getElem?_eq_none (by omega), List.getElem?_eq_none (by simp; omega)]
    · cases h

theorem laidVars_mem {P : Program} {w : World} : ∀ {l : List (String × DataW Unit)} {ps : List MemPlace}, DataW.LaidVars P w l ps → ∀ x ∈ l, ∃ g t cs fuel p, P.globalNamed x.1 = some g ∧ (P.globals[g]?).map (·.type) = some t ∧ w.var? P x.1 = some cs ∧
    DataW.trod (fun _ => ()) P w 0 (fun _ => true) false fuel t cs.toList = some (x.2, p)
  | [], _, _, x, hx => by simp at hx
  | (n, d) :: l, ps, h, x, hx => by
    obtain ⟨g, t, cs, fuel, p, q, h1, h2, h3, h4, h5, h6⟩ := h
    rcases List.mem_cons.1 hx with rfl | hx
    · exact ⟨g, t, cs, fuel, p, h1, h2, h3, h4⟩
    · exact laidVars_mem h5 x hx

/-- A variable that is listed as strings holds them. -/
theorem glob_strs {P : Program} {W : World} {laid : List (String × DataW Unit)} {n : String} {bs : List (List UInt8)} {g t e ty m : Nat} (hl : laidMet P laid W) (hm : (n, strData bs) ∈ laid) (hg : P.globalNamed n = some g) (ht : (P.globals[g]?).map (·.type) = some t)
    (hu : P.underlying t = some (.array m e)) (he : P.underlying e = some .string) (hce : P.cellsOf e = 1) (hct : P.cellsOf t = m) (hsh : W.ShapedOpen P)
    (hty : ((begin P (fun _ _ => 0) default).world.heap[g]?).bind (fun o => (Obj.row? o).map (·.2)) = some ty) : W.heap[g]? = some (.cells (strVals bs) ty (0, 0)) := by
  obtain ⟨ps, h1, _⟩ := hl
  obtain ⟨g', t', cs, fuel, p, e1, e2, e3, e4⟩ := laidVars_mem h1 _ hm
  obtain rfl := Option.some.inj (hg.symm.trans e1)
  obtain rfl := Option.some.inj (ht.symm.trans e2)
  have hcs := cells_of_strs hu he hce hct e4
  have hcs' : cs = strVals bs := by rw [← Array.toArray_toList (xs := cs), hcs]; rfl
  have hglt : g < P.globals.size := by
    cases hgg : P.globals[g]? with
    | none => rw [hgg] at ht; cases ht
    | some x => exact (Array.getElem?_eq_some_iff.1 hgg).1
  obtain ⟨o, ho, hr⟩ := Option.bind_eq_some_iff.1 hty
  obtain ⟨zt, hz, rfl⟩ := Option.map_eq_some_iff.1 hr
  obtain ⟨zero, tt⟩ := zt
  obtain ⟨cs2, q1, q2, q3⟩ := hsh.1 g zero tt hglt (by rw [ho]; exact hz)
  have : cs2 = cs := by
    unfold World.var? at e3
    rw [hg] at e3
    simp only [Option.bind_some, q1] at e3
    injection e3
  rw [q1, this, hcs']

/-- Rows of strings. -/
def glM : List (List UInt8) → T (List AV) → Nat → Bool
  | [], _, _ => true
  | b :: bs, m, i => (match m.get (pos i) with | some [.str n v] => strIs b n v | _ => false) && glM bs m (i + 1)

theorem glM_spec : ∀ {bs : List (List UInt8)} {m : T (List AV)} {i : Nat}, glM bs m i = true → ∀ j b, bs[j]? = some b → ∃ n v, m.get (pos (i + j)) = some [.str n v] ∧ strIs b n v = true
  | [], _, _, _, j, b, h => by simp at h
  | c :: bs, m, i, h, j, b, hj => by
    simp only [glM, Bool.and_eq_true] at h
    cases j with
    | zero =>
      simp at hj
      subst hj
      have h1 := h.1
      split at h1
      · rename_i n v hg
        exact ⟨n, v, by simpa using hg, h1⟩
      · cases h1
    | succ j =>
      obtain ⟨n, v, h1, h2⟩ := glM_spec h.2 j b (by simpa using hj)
      exact ⟨n, v, by rw [show i + (j + 1) = i + 1 + j from by omega]; exact h1, h2⟩

theorem rows_strs {ρ : Rho} {bs : List (List UInt8)} {m : T (List AV)} (h : glM bs m 0 = true) : RowsRel ρ 1 bs.length m (strVals bs) 0 := by
  intro i l hi hg
  obtain ⟨b, hb⟩ : ∃ b, bs[i]? = some b := ⟨_, List.getElem?_eq_getElem hi⟩
  obtain ⟨n, v, h1, h2⟩ := glM_spec h i b hb
  rw [Nat.zero_add] at h1
  rw [hg] at h1
  injection h1 with h1
  subst h1
  refine ⟨rfl, fun j a hj => ?_⟩
  cases j with
  | succ j => simp at hj
  | zero =>
    simp at hj
    subst hj
    obtain ⟨h3, h4⟩ := strIs_iff h2
    refine ⟨.string ⟨b.toArray⟩, by simp [strVals, hb], ?_⟩
    simp only [VRel]
    exact ⟨by rw [strBA_of (s := ⟨b.toArray⟩) (by simpa using h3)], h4⟩

/-! ### Memory as a call begins -/
/-- How many cells a block has. -/
def roomAt (w : World) (g : Nat) : Nat := match w.heap[g]? with | some (.cells c _ _) => c.size | _ => 0
open Classical in
noncomputable def rho0 (P : Program) (w : World) : Rho := fun p => if p.toNat < P.globals.size then some ⟨p.toNat, 0, roomAt w p.toNat, 1⟩ else none

theorem inv0 {P : Program} {K : CK} {w : World} {g0 : T AObj} {nx : Pos} (hsz : P.globals.size ≤ w.heap.size) (hnx : P.globals.size ≤ nx.toNat)
    (hobj : ∀ p o, g0.get p = some o → p.toNat < P.globals.size ∧ ∃ ty bs m, o = .cells 1 ty INF bs.length m ∧ w.heap[p.toNat]? = some (.cells (strVals bs) ty (0, 0)) ∧ glM bs m 0 = true ∧ bs.length ≤ lid) : Inv P K w (rho0 P w) ⟨g0, nx⟩ w := by
  have hρ : ∀ p r, rho0 P w p = some r → p.toNat < P.globals.size ∧ r = ⟨p.toNat, 0, roomAt w p.toNat, 1⟩ := by
    intro p r h
    unfold rho0 at h
    split at h
    · rename_i hp; injection h with h; exact ⟨hp, h.symm⟩
    · cases h
  refine ⟨fun id o r h1 h2 => ?_, fun id id' o o' r r' h1 h2 _ _ h3 h4 h5 => ?_, fun id hid => ?_, fun id r h => ?_, fun id o r h1 h2 h3 => ?_, fun p hp => ?_, fun _ _ => rfl, Nat.le_refl _, rfl, rfl, rfl⟩
  · obtain ⟨hp, rfl⟩ := hρ id r h2
    obtain ⟨_, ty, bs, m, rfl, q1, q2, q3⟩ := hobj id o h1
    have hr : roomAt w id.toNat = bs.length := by simp [roomAt, q1, strVals]
    refine ⟨by omega, rfl, by rw [hr]; simp, q3, Nat.zero_mod _, strVals bs, (0, 0), q1, by rw [hr]; simp [strVals], rows_strs q2, fun _ => Nat.zero_le _⟩
  · obtain ⟨_, rfl⟩ := hρ id r h3
    obtain ⟨_, rfl⟩ := hρ id' r' h4
    exact Pos.toNat_inj h5
  · refine ⟨?_, ?_⟩
    · unfold rho0
      rw [if_neg]
      have : nx.toNat ≤ id.toNat := hid
      omega
    · show g0.get id = none
      cases hg : g0.get id with
      | none => rfl
      | some o =>
        have := (hobj id o hg).1
        have h2 : nx.toNat ≤ id.toNat := hid
        omega
  · obtain ⟨hp, rfl⟩ := hρ id r h
    show id.toNat < w.heap.size
    omega
  · obtain ⟨_, ty, bs, m, rfl, q1, q2, q3⟩ := hobj id o h1
    have : Nat.blt INF INF = false := by decide
    simp [AObj.writes, this] at h2
  · refine ⟨⟨p.toNat, 0, roomAt w p.toNat, 1⟩, ?_, rfl, rfl⟩
    unfold rho0
    rw [if_pos hp]

/-- How many blocks there are. -/
theorem heap_of_shaped {P : Program} {W : World} (h : W.ShapedOpen P) : P.globals.size ≤ W.heap.size := by
  have hs : (begin P (fun _ _ => 0) default).world.heap.size = P.globals.size + 5 := by simp [begin]
  obtain ⟨o, o0, h1, _⟩ := h.2 P.globals.size (Nat.le_refl _) (by rw [hs]; omega)
  have := (Array.getElem?_eq_some_iff.1 h1).1
  omega

end
end Go.Absm
