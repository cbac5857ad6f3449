/- The abstract machine: what its operations stand for, one by one. No condition. -/
import Derived.Test.YtdpkipphgkphpaaGreatDoorAa
import Derived.Lib.Builder
import Derived.Laws.BytesString
set_option linter.unusedVariables false
set_option linter.unusedSimpArgs false
set_option linter.unusedSectionVars false
set_option linter.constructorNameAsVariable false
/- The abstract machine: operations that change nothing, the fifth part. -/
namespace Go.Absm
noncomputable section
set_option linter.unusedVariables false
set_option linter.unusedSectionVars false

def mList (m : Operand → Opd → Bool) : List Operand → List Opd → Bool
  | [], [] => true
  | x :: l, X :: L => m x X && mList m l L
  | _, _ => false
def partsS (P : Program) (m : Operand → Opd → Bool) (fs : Array Field) : List (Nat × Operand) → List (Nat × Nat × Opd) → Bool
  | [], [] => true
  | (i, x) :: l, (off, n, X) :: L => (match fs[i]? with | some fd => Nat.beq fd.offset off && szIs P fd.type n | none => false) && m x X && partsS P m fs l L
  | _, _ => false
def partsA (m : Operand → Opd → Bool) (sz : Nat) : List (Nat × Operand) → List (Nat × Nat × Opd) → Bool
  | [], [] => true
  | (i, x) :: l, (off, n, X) :: L => Nat.beq (Nat.mul i sz) off && Nat.beq sz n && m x X && partsA m sz l L
  | _, _ => false
def allInfo (P : Program) : List Field → Bool
  | [] => true
  | f :: fs => (P.info? f.type).isSome && allInfo P fs
def mBuild (P : Program) (m : Operand → Opd → Bool) (o : Op) (z : List AV) (ps : List (Nat × Nat × Opd)) : Bool :=
  match o with
  | .build t parts => zeroIs P t z &&
    (match P.underlying t with
      | some (.struct fs) => allInfo P fs.toList && partsS P m fs parts.toList ps
      | some (.array _ e) => (match P.info? e with | some i => partsA m i.size parts.toList ps | none => false)
      | _ => false)
  | _ => false
def mMkfn (m : Operand → Opd → Bool) (o : Op) (fn : Pos) (a b : List Opd) : Bool :=
  match o with
  | .makeFunc (.func g) first cap => Nat.beq fn.toNat g && mList m first.toList a && mList m cap.toList b
  | _ => false

section
variable {P : Program} {K : CK} {W0 w : World} {ρ : Rho} {h : AHeap} {m : Operand → Opd → Bool} {f : Operand → Value} {o : Oper} {v : AV} {sc : List AV} {env : T AV}

theorem mList_sound {e : Opd → AV} (H : ∀ x X, m x X = true → VRel ρ (e X) (f x)) : ∀ {l : List Operand} {L : List Opd}, mList m l L = true → VRelL ρ (L.map e) (l.map f)
  | [], [], _ => by simp
  | x :: l, X :: L, hm => by
    simp only [mList, Bool.and_eq_true] at hm
    exact VRelL.cons'.2 ⟨H _ _ hm.1, mList_sound H hm.2⟩
  | [], _ :: _, hm => by simp [mList] at hm
  | _ :: _, [], hm => by simp [mList] at hm

theorem evL_eq (l : List Opd) (sc : List AV) (env : T AV) : evL l sc env = l.map fun X => ev X sc env := by
  induction l with
  | nil => rfl
  | cons a l ih => simp [evL, ih]

theorem s_mkfn (H : ∀ x X, m x X = true → VRel ρ (ev X sc env) (f x)) {fn : Pos} {a b : List Opd} (hm : mMkfn m o.op fn a b = true) : QOk P w ρ f o (.fn fn (evL a sc env) (evL b sc env)) := by
  unfold mMkfn at hm
  split at hm
  · rename_i g first cap ho
    simp only [Bool.and_eq_true] at hm
    obtain ⟨⟨h1, h2⟩, h3⟩ := hm
    have h1 : fn.toNat = g := beq_iff.1 h1
    refine ⟨.func (.func g) (first.map f) (cap.map f), by simp [execOp, ho, Instr.makeFunc], ?_⟩
    simp only [VRel, evL_eq]
    refine ⟨first.map f, cap.map f, by rw [h1], ?_, ?_⟩
    · rw [Array.toList_map]; exact mList_sound H h2
    · rw [Array.toList_map]; exact mList_sound H h3
  · cases hm

/-! ### The cells of a value -/
theorem cells_rel {a : AV} {x : Value} (hx : VRel ρ a x) (ho : okCells a.cells = true) : VRelL ρ a.cells x.cells.toList ∧ ∀ u ∈ x.cells.toList, u.oneCell' = true := by
  have one : ∀ {a : AV} {x : Value}, VRel ρ a x → okCell a = true → x.oneCell' = true := by
    intro a x hx ho
    cases a <;> simp only [VRel] at hx <;> (try (simp [okCell] at ho; done)) <;> (try (obtain ⟨rfl, _⟩ := hx; rfl)) <;> (try (subst hx; rfl)) <;> (try (obtain ⟨r, _, rfl⟩ := hx; rfl))
    · obtain ⟨r, a, c, _, rfl, _⟩ := hx; rfl
    · obtain ⟨a', b', rfl, _⟩ := hx; rfl
    · obtain ⟨v', rfl, _⟩ := hx; rfl
  have ones : ∀ (l : List AV) (vs : List Value), VRelL ρ l vs → okCells l = true → ∀ u ∈ vs, u.oneCell' = true := by
    intro l
    induction l with
    | nil => intro vs hv _ u hu; simp at hv; subst hv; simp at hu
    | cons a l ih =>
      intro vs hv ho u hu
      obtain ⟨v, vs', rfl, h1, h2⟩ := VRelL.cons.1 hv
      simp only [okCells, Bool.and_eq_true] at ho
      rcases List.mem_cons.1 hu with rfl | hu
      · exact one h1 ho.1
      · exact ih _ h2 ho.2 u hu
  cases a with
  | agg l =>
    simp only [VRel] at hx
    obtain ⟨l', rfl, hl⟩ := hx
    exact ⟨hl, ones _ _ hl ho⟩
  | tup l => simp [AV.cells, okCells, okCell] at ho
  | bot => simp [AV.cells, okCells, okCell] at ho
  | _ =>
    have h1 := one hx (by simpa [AV.cells, okCells] using ho)
    have hc : x.cells = #[x] := by cases x <;> first | rfl | (simp [Value.oneCell'] at h1)
    rw [hc]
    refine ⟨by simpa [AV.cells] using VRelL.cons'.2 ⟨hx, VRelL.nil.2 rfl⟩, ?_⟩
    intro u hu
    simp at hu
    subst hu
    exact h1

theorem foldl_put (xs : Array Value) (off : Nat) (cells : Array Value) (h : off + xs.size ≤ cells.size) :
    (xs.zipIdx.foldl (fun cs (c, j) => cs.setIfInBounds (off + j) c) cells).toList = cells.toList.take off ++ xs.toList ++ cells.toList.drop (off + xs.size) := by
  have key : ∀ (l : List Value) (k : Nat) (cells : Array Value), off + k + l.length ≤ cells.size →
      ((l.zipIdx k).foldl (fun (cs : Array Value) (p : Value × Nat) => cs.setIfInBounds (off + p.2) p.1) cells).toList = cells.toList.take (off + k) ++ l ++ cells.toList.drop (off + k + l.length) := by
    intro l
    induction l with
    | nil => intro k cells _; simp
    | cons a l ih =>
      intro k cells hk
      simp only [List.zipIdx_cons, List.foldl_cons]
      rw [ih (k + 1) _ (by simp at hk ⊢; omega)]
      simp only [List.length_cons] at hk
      refine List.ext_getElem? fun i => ?_
      simp only [Array.toList_setIfInBounds, List.getElem?_append, List.length_append, List.length_take, List.length_set, Array.length_toList, List.length_cons, List.getElem?_take, List.getElem?_drop, List.getElem?_set, List.getElem?_cons]
      have e1 : min (off + (k + 1)) cells.size = off + k + 1 := by omega
      have e2 : min (off + k) cells.size = off + k := by omega
      simp only [e1, e2]
      rcases Nat.lt_trichotomy i (off + k) with hlt | heq | hgt
      · have a1 : i < off + k + 1 + l.length := by omega
        have a2 : i < off + k + 1 := by omega
        have a3 : i < off + (k + 1) := by omega
        have a4 : i < off + k + (l.length + 1) := by omega
        have a5 : ¬ (off + k = i) := by omega
        simp [a1, a2, a3, a4, hlt, a5]
      · subst heq
        have a1 : off + k < off + k + 1 + l.length := by omega
        have a4 : off + k < off + (k + 1) := by omega
        have a5 : off + k < cells.size := by omega
        simp [a1, a4, a5]
      · have a2 : ¬ (i < off + k + 1) := by omega
        have a6 : ¬ (i < off + k) := by omega
        have a7 : ¬ (i - (off + k) = 0) := by omega
        have a8 : i - (off + k) - 1 = i - (off + k + 1) := by omega
        by_cases hl : i < off + k + 1 + l.length
        · have a4 : i < off + k + (l.length + 1) := by omega
          simp [hl, a2, a4, a6, a7, a8]
        · have a4 : ¬ (i < off + k + (l.length + 1)) := by omega
          have a9 : off + (k + 1) + l.length + (i - (off + k + 1 + l.length)) = i := by omega
          have a10 : off + k + (l.length + 1) + (i - (off + k + (l.length + 1))) = i := by omega
          have a11 : ¬ (off + k = i) := by omega
          simp [hl, a4, a9, a10, a11]
  have := key xs.toList 0 cells (by simpa using h)
  simp only [Nat.add_zero, Array.length_toList] at this
  rw [← this]
  congr 1
  rw [← Array.foldl_toList]
  simp [Array.toList_zipIdx]

/-- One part. -/
theorem fill_one {place : Nat → Option (Nat × Nat)} {i off n : Nat} {a : AV} {x : Value} {l l' : List AV} {cells : Array Value} {rest : List (Nat × Value)} (hp : place i = some (off, n)) (hx : VRel ρ a x) (hl : VRelL ρ l cells.toList)
    (hput : putN off a.cells l = some l') (hn : lenL a.cells = n) (ho : okCells a.cells = true) :
    ∃ cells' : Array Value, Instr.fill place cells ((i, x) :: rest) = Instr.fill place cells' rest ∧ VRelL ρ l' cells'.toList := by
  obtain ⟨hc, _⟩ := cells_rel hx ho
  rw [putN_eq] at hput
  obtain ⟨h1, h2⟩ := hput
  have hsz : x.cells.size = n := by have := hc.length; rw [lenL_eq] at hn; simp at this; omega
  have hll := hl.length
  simp at hll
  have hle : off + x.cells.size ≤ cells.size := by rw [lenL_eq] at hn; omega
  refine ⟨x.cells.zipIdx.foldl (fun cs (c, j) => cs.setIfInBounds (off + j) c) cells, ?_, ?_⟩
  · simp only [Instr.fill, hp]
    rw [if_neg]
    simp only [Bool.or_eq_true, decide_eq_true_eq, ne_eq, not_or, Decidable.not_not]
    exact ⟨hsz, by omega⟩
  · rw [foldl_put _ _ _ hle, h2]
    rw [lenL_eq] at hn
    refine VRelL.append (VRelL.append (hl.take off) hc) ?_
    rw [hsz, ← hn]
    exact hl.drop _

theorem fillS_sound (H : ∀ x X, m x X = true → VRel ρ (ev X sc env) (f x)) {fs : Array Field} {places : Array (Nat × Nat)} (hpl : ∀ (i : Nat) (fd : Field) (n : Nat), fs[i]? = some fd → szIs P fd.type n = true → places[i]? = some (fd.offset, n)) :
    ∀ (parts : List (Nat × Operand)) (ps : List (Nat × Nat × Opd)) (l l' : List AV) (cells : Array Value), partsS P m fs parts ps = true → VRelL ρ l cells.toList → fillParts ps sc env l = some l' →
      ∃ cells' : Array Value, Instr.fill (places[·]?) cells (parts.map fun (i, x) => (i, f x)) = some cells' ∧ VRelL ρ l' cells'.toList
  | [], [], l, l', cells, _, hl, hf => by
    simp only [fillParts] at hf
    injection hf with hf
    subst hf
    exact ⟨cells, by simp [Instr.fill], hl⟩
  | (i, x) :: parts, (off, n, X) :: ps, l, l', cells, hm, hl, hf => by
    simp only [partsS, Bool.and_eq_true] at hm
    obtain ⟨⟨h1, h2⟩, h3⟩ := hm
    simp only [fillParts] at hf
    split at hf
    · rename_i l1 hput
      obtain ⟨hb, hf⟩ := bf_some hf
      simp only [Bool.and_eq_true, beq_iff] at hb
      split at h1
      · rename_i fd hfd
        simp only [Bool.and_eq_true, beq_iff] at h1
        have hp : places[i]? = some (off, n) := by rw [← h1.1]; exact hpl i fd n hfd h1.2
        obtain ⟨cells', h4, h5⟩ := fill_one (rest := parts.map fun (i, x) => (i, f x)) (place := (places[·]?)) hp (H _ _ h2) hl hput hb.1 hb.2
        obtain ⟨c2, h6, h7⟩ := fillS_sound H hpl parts ps l1 l' cells' h3 h5 hf
        exact ⟨c2, by rw [← h6, List.map_cons]; exact h4, h7⟩
      · cases h1
    · cases hf
  | [], _ :: _, _, _, _, hm, _, _ => by simp [partsS] at hm
  | _ :: _, [], _, _, _, hm, _, _ => by simp [partsS] at hm

theorem fillA_sound (H : ∀ x X, m x X = true → VRel ρ (ev X sc env) (f x)) {sz : Nat} :
    ∀ (parts : List (Nat × Operand)) (ps : List (Nat × Nat × Opd)) (l l' : List AV) (cells : Array Value), partsA m sz parts ps = true → VRelL ρ l cells.toList → fillParts ps sc env l = some l' →
      ∃ cells' : Array Value, Instr.fill (fun i => some (i * sz, sz)) cells (parts.map fun (i, x) => (i, f x)) = some cells' ∧ VRelL ρ l' cells'.toList
  | [], [], l, l', cells, _, hl, hf => by
    simp only [fillParts] at hf
    injection hf with hf
    subst hf
    exact ⟨cells, by simp [Instr.fill], hl⟩
  | (i, x) :: parts, (off, n, X) :: ps, l, l', cells, hm, hl, hf => by
    simp only [partsA, Bool.and_eq_true, beq_iff] at hm
    obtain ⟨⟨⟨h1, h0⟩, h2⟩, h3⟩ := hm
    simp only [fillParts] at hf
    split at hf
    · rename_i l1 hput
      obtain ⟨hb, hf⟩ := bf_some hf
      simp only [Bool.and_eq_true, beq_iff] at hb
      have h1 : i * sz = off := h1
      obtain ⟨cells', h4, h5⟩ := fill_one (rest := parts.map fun (i, x) => (i, f x)) (place := fun i => some (i * sz, sz)) (i := i) (off := off) (n := n) (by rw [h1, h0]) (H _ _ h2) hl hput hb.1 hb.2
      obtain ⟨c2, h6, h7⟩ := fillA_sound H parts ps l1 l' cells' h3 h5 hf
      exact ⟨c2, by rw [← h6, List.map_cons]; exact h4, h7⟩
    · cases hf
  | [], _ :: _, _, _, _, hm, _, _ => by simp [partsA] at hm
  | _ :: _, [], _, _, _, hm, _, _ => by simp [partsA] at hm

theorem run_places {fs : List Field} (ha : allInfo P fs = true) (w : World) :
    (fs.mapM fun fd => do pure (fd.offset, ← sizeOf fd.type) : Sem (List (Nat × Nat))).run P w = .ok (fs.map fun fd => (fd.offset, ((P.info? fd.type).map (·.size)).getD 0)) w := by
  induction fs with
  | nil => simp
  | cons fd fs ih =>
    simp only [allInfo, Bool.and_eq_true] at ha
    obtain ⟨i, hi⟩ := Option.isSome_iff_exists.1 ha.1
    have := ih ha.2
    simp only [List.mapM_cons, Sem.run_bind, sizeOf, typeInfo, hi, run_program, Result.andThen_ok, Sem.run_pure, List.map_cons, Option.map_some, Option.getD_some]
    simp only [sizeOf, typeInfo] at this
    rw [this]
    simp

theorem s_build (H : ∀ x X, m x X = true → VRel ρ (ev X sc env) (f x)) {z : List AV} {ps : List (Nat × Nat × Opd)} {l : List AV} (hm : mBuild P m o.op z ps = true) (hv : fillParts ps sc env z = some l) : QOk P w ρ f o (.agg l) := by
  unfold mBuild at hm
  split at hm
  · rename_i t parts ho
    simp only [Bool.and_eq_true] at hm
    obtain ⟨hz, hm⟩ := hm
    unfold zeroIs at hz
    split at hz
    · rename_i ti hti
      split at hz
      · rename_i zv hzv
        have hzr := cAVL_sound hz ρ
        have hzero : (zeroValue t).run P w = .ok zv w := by simp [zeroValue, typeInfo, hti, hzv]
        split at hm
        · rename_i fs hu
          simp only [Bool.and_eq_true] at hm
          obtain ⟨ha, hp⟩ := hm
          have hpl : ∀ (i : Nat) (fd : Field) (n : Nat), fs[i]? = some fd → szIs P fd.type n = true → ((fs.toList.map fun fd => (fd.offset, ((P.info? fd.type).map (·.size)).getD 0)).toArray)[i]? = some (fd.offset, n) := by
            intro i fd n hfd hsz
            unfold szIs at hsz
            split at hsz
            · rename_i j hj
              have hsz : j.size = n := beq_iff.1 hsz
              have : fs.toList[i]? = some fd := by simpa using hfd
              simp [this, hj, hsz]
            · cases hsz
          obtain ⟨cells', h1, h2⟩ := fillS_sound H hpl parts.toList ps z l zv.cells hp hzr hv
          refine ⟨.agg cells', ?_, by simp only [VRel]; exact ⟨_, rfl, h2⟩⟩
          have hmapM : (fs.mapM fun fd => do pure (fd.offset, ← sizeOf fd.type) : Sem (Array (Nat × Nat))).run P w = .ok (fs.toList.map fun fd => (fd.offset, ((P.info? fd.type).map (·.size)).getD 0)).toArray w := by
            rw [Array.mapM_eq_mapM_toList]
            rw [Sem.run_map, run_places ha w]
            rfl
          have hpt : (parts.map fun (i, x) => (i, f x)).toList = parts.toList.map fun (i, x) => (i, f x) := by simp
          simp only [execOp, ho, Instr.build, Sem.run_bind, hzero, Result.andThen_ok, run_underlying hu]
          rw [hmapM]
          simp only [Result.andThen_ok, hpt, h1, Sem.run_pure]
        · rename_i n el hu
          split at hm
          · rename_i j hj
            obtain ⟨cells', h1, h2⟩ := fillA_sound H parts.toList ps z l zv.cells hm hzr hv
            refine ⟨.agg cells', ?_, by simp only [VRel]; exact ⟨_, rfl, h2⟩⟩
            have hpt : (parts.map fun (i, x) => (i, f x)).toList = parts.toList.map fun (i, x) => (i, f x) := by simp
            simp only [execOp, ho, Instr.build, Sem.run_bind, hzero, Result.andThen_ok, run_underlying hu, sizeOf, typeInfo, hj, run_program, Sem.run_pure, hpt, h1]
          · cases hm
        · cases hm
      · cases hz
    · cases hz
  · cases hm

end
end
end Go.Absm

/- The abstract machine: operations that change nothing, the sixth part: maps, strings of bytes, pointers. -/
namespace Go.Absm
noncomputable section
set_option linter.unusedVariables false
set_option linter.unusedSectionVars false

def zeroIsV (P : Program) (t : TypeId) (z : AV) : Bool :=
  match P.info? t with
  | some i => (match i.zero with | some v => cAV v z | none => false)
  | none => false
def mLookup (P : Program) (m : Operand → Opd → Bool) (o : Op) (kt : KT) (z : AV) (ok : Bool) (M Kk : Opd) : Bool :=
  match o with
  | .lookup t x ix c => beqB c ok && m x M && m ix Kk &&
    (match P.underlying t with
      | some (.map kty e) => ktM P kty kt && zeroIsV P e z
      | _ => false)
  | _ => false
def mB2s (P : Program) (m : Operand → Opd → Bool) (o : Op) (X : Opd) : Bool :=
  match o with
  | .convert s d x => m x X && strT P d && (match P.underlying s with | some (.slice e) => intT P e .u8 | _ => false)
  | _ => false
def mEntry (m : Operand → Opd → Bool) (o : Op) (X : Opd) : Bool :=
  match o with
  | .entry x => m x X
  | _ => false
def mIdxb (P : Program) (m : Operand → Opd → Bool) (o : Op) (X C : Opd) : Bool :=
  match o with
  | .call c => isExt P c "internal/bytealg.IndexByteString" && (match c.args.toList with | [x, y] => m x X && m y C | _ => false)
  | _ => false
def mUsp (P : Program) (m : Operand → Opd → Bool) (o : Op) (X : Opd) : Bool :=
  match o with
  | .convert s d x => m x X && (match P.underlying s, P.underlying d with
    | some (.pointer t), some .unsafePointer => (match P.info? t with | some i => !(Nat.beq i.size 0) | none => false)
    | _, _ => false)
  | _ => false
def okLies (P : Program) (u : TypeId) : List (Nat × Nat × Nat × Nat) → Bool
  | [] => true
  | (t, s, c, off) :: l => Nat.beq (P.cellsOf t) s && liesAt P P.depth t c off u 1 && okLies P u l
def mSpu (P : Program) (m : Operand → Opd → Bool) (o : Op) (u : Nat) (ok : List (Nat × Nat × Nat × Nat)) (X : Opd) : Bool :=
  match o with
  | .convert s d x => m x X && (match P.underlying s, P.underlying d with
    | some .unsafePointer, some (.pointer v) => (P.info? v).isSome && okLies P v ok
    | _, _ => false)
  | _ => false
def mUsd (m : Operand → Opd → Bool) (o : Op) (X : Opd) : Bool :=
  match o with
  | .call { callee := .builtin .unsafeSliceData, args, .. } => (match args.toList with | [x] => m x X | _ => false)
  | _ => false

section
variable {P : Program} {K : CK} {W0 w : World} {ρ : Rho} {h : AHeap} {m : Operand → Opd → Bool} {e : Opd → AV} {f : Operand → Value} {o : Oper} {v : AV}

/-! ### Maps -/
theorem checkKey_cell {k : Nat} {t : TypeId} (hk : kM P t k = true) (x : Value) (em : Bool) (n : Nat) (w : World) : (Instr.checkKey em (n + 1) t x).run P w = .ok () w := by
  unfold kM at hk
  split at hk <;> rename_i hu <;> (try (cases hk; done)) <;> simp [Instr.checkKey, run_underlying hu]

theorem checkKey_run {kt : KT} {t : TypeId} (hk : ktM P t kt = true) {a : AV} {x : Value} (hx : VRel ρ a x) (ho : keyOk kt a = true) (em : Bool) (n : Nat) (w : World) : (Instr.checkKey em (n + 2) t x).run P w = .ok () w := by
  cases kt with
  | one k => exact checkKey_cell hk x em (n + 1) w
  | st ks =>
    unfold ktM at hk
    simp only at hk
    split at hk
    · rename_i fs hu
      simp only [Bool.and_eq_true] at hk
      unfold keyOk eqKT at ho
      simp only at ho
      cases a <;> simp only at ho <;> (try (cases ho; done))
      rename_i l
      simp only [VRel] at hx
      obtain ⟨cs, rfl, hl⟩ := hx
      obtain ⟨N, hN⟩ : ∃ N, N = n + 1 := ⟨_, rfl⟩
      have hcell : ∀ {k : Nat} {t : TypeId}, kM P t k = true → ∀ (x : Value), (Instr.checkKey em N t x).run P w = .ok () w := by
        intro k t hk x
        rw [hN]
        exact checkKey_cell hk x em n w
      rw [show n + 2 = N + 1 by omega]
      simp only [Instr.checkKey, Sem.run_bind, run_underlying hu, Result.andThen_ok]
      rw [← Array.forIn_toList]
      have hks : ∃ b, eqKs ks l l = some b := by
        split at ho
        · rename_i b hb; exact ⟨b, hb⟩
        · cases ho
      have key : ∀ (fs : List Field) (i : Nat) (ks : List Nat) (l : List AV), flatFs P fs i ks = true → (∃ b, eqKs ks l l = some b) → VRelL ρ l (cs.toList.drop i) →
          (forIn fs PUnit.unit (fun (fd : Field) (_ : PUnit) => do
            if fd.name ≠ "_" then Instr.checkKey em N fd.type (← part fd.type cs fd.offset)
            pure (ForInStep.yield PUnit.unit)) : Sem PUnit).run P w = .ok PUnit.unit w := by
        intro fs
        induction fs with
        | nil => intro i ks l _ _ _; simp
        | cons fd fs ih =>
          intro i ks l hf hb hl
          cases ks with
          | nil => simp [flatFs] at hf
          | cons k ks =>
            simp only [flatFs, Bool.and_eq_true, bne_iff_ne, ne_eq] at hf
            obtain ⟨⟨⟨h1, h2⟩, h3⟩, h4⟩ := hf
            have h1 : fd.offset = i := beq_iff.1 h1
            obtain ⟨b, hb⟩ := hb
            cases l with
            | nil => simp [eqKs] at hb
            | cons a l =>
              simp only [eqKs] at hb
              split at hb
              · rename_i r1 s1 hr1 hs1
                obtain ⟨y, ys, hye, hya, hyl⟩ := VRelL.cons.1 hl
                have hyi : cs[i]? = some y := by
                  have := congrArg (·[0]?) hye
                  simpa using this
                have hyd : cs.toList.drop (i + 1) = ys := by
                  have := congrArg (·.drop 1) hye
                  simpa using this
                have := ih (i + 1) ks l h4 ⟨s1, hs1⟩ (by rw [hyd]; exact hyl)
                simp only [List.forIn_cons, Sem.run_bind, h2, ne_eq, not_false_eq_true, if_true, h1, run_part_cell (kM_cell h3) hyi, Result.andThen_ok, hcell h3, Sem.run_pure]
                simpa using this
              · cases hb
      have := key fs.toList 0 ks l hk.1.1 hks (by simpa using hl)
      simp at this
      simp [this]
    · cases hk

def FRel (ρ : Rho) : Option (Nat × AV) → Option (Nat × Value) → Prop
  | none, r => r = none
  | some (i, v), r => ∃ u, r = some (i, u) ∧ VRel ρ v u

theorem findNow_run {k : Nat} {t : TypeId} {d : TypeDesc} (hk : kM P t k = true) (hd : P.underlying t = some d) {a : AV} {x : Value} (hx : VRel ρ a x) : ∀ (es : List (AV × AV × Nat)) (l : List MapEntry) (i : Nat) (r : Option (Nat × AV)), ERel ρ es l → findE (.one k) a es i = some r →
    ∃ r', Instr.findNow d x l i = some r' ∧ FRel ρ r r'
  | [], l, i, r, hl, hr => by
    simp only [ERel] at hl
    simp only [findE] at hr
    injection hr with hr
    subst hr hl
    exact ⟨none, rfl, rfl⟩
  | (q, vv, b) :: es, l, i, r, ⟨en, l', hl, h1, h2, h3, h4⟩, hr => by
    subst hl
    simp only [findE, eqKT] at hr
    have hs : ∀ b, eqK k a q = some b → Instr.sameNow d x en.key = some b := by
      intro b hb
      have hb0 := hb
      unfold kM at hk
      rw [hd] at hk
      unfold eqK at hb
      split at hb <;> (try (cases hb; done)) <;> replace hb := bf_some hb <;> obtain ⟨hc, hb⟩ := hb <;> injection hb with hb
      · have hc := beq_iff.1 hc
        subst hc
        simp only [VRel] at hx h1
        split at hk <;> rename_i hu <;> (try (simp at hk; done)) <;> (try (cases hk; done))
        injection hu with hu
        subst hu
        rw [hx, h1]
        simp only [Instr.sameNow]
        rw [← hb, beqB_eq]
      · simp only [Bool.and_eq_true] at hc
        obtain ⟨hc, hik⟩ := hc
        have hc := beq_iff.1 hc
        have hik := ik_iff.1 hik
        subst hc hik
        simp only [VRel] at hx h1
        split at hk <;> rename_i hu <;> (try (simp at hk; done)) <;> (try (cases hk; done))
        injection hu with hu
        subst hu
        rw [hx, h1]
        simp only [Instr.sameNow, if_true]
        rw [← hb, intEq_dec]
        rfl
      · have hc := beq_iff.1 hc
        subst hc
        simp only [VRel] at hx h1
        split at hk <;> rename_i hu <;> (try (simp at hk; done)) <;> (try (cases hk; done))
        injection hu with hu
        subst hu
        rw [hx.1, h1.1]
        simp only [Instr.sameNow]
        rw [← hb, beq_toListBytes, ByteArray.toList_eq, ByteArray.toList_eq, strBA_data, strBA_data, strL_beq hx.2 h1.2]
    split at hr
    · rename_i hq
      injection hr with hr
      subst hr
      exact ⟨some (i, en.val), by simp [Instr.findNow, hs _ hq], en.val, rfl, h2⟩
    · rename_i hq
      obtain ⟨r', h5, h6⟩ := findNow_run hk hd hx es l' (i + 1) r h4 hr
      exact ⟨r', by simp [Instr.findNow, hs _ hq, h5], h6⟩
    · cases hr

theorem findAsk_run {kt : KT} {t : TypeId} (hk : ktM P t kt = true) {a : AV} {x : Value} (hx : VRel ρ a x) (w : World) : ∀ (es : List (AV × AV × Nat)) (l : List MapEntry) (i : Nat) (r : Option (Nat × AV)), ERel ρ es l → findE kt a es i = some r →
    ∃ r', (Instr.findAsking t x l i).run P w = .ok r' w ∧ FRel ρ r r'
  | [], l, i, r, hl, hr => by
    simp only [ERel] at hl
    simp only [findE] at hr
    injection hr with hr
    subst hr hl
    exact ⟨none, by simp [Instr.findAsking], rfl⟩
  | (q, vv, b) :: es, l, i, r, ⟨en, l', hl, h1, h2, h3, h4⟩, hr => by
    subst hl
    simp only [findE] at hr
    have hs : ∀ b, eqKT kt a q = some b → (Op.equal t x en.key).run P w = .ok b w := fun b hb => eqKT_run hk hx h1 hb w 9998
    split at hr
    · rename_i hq
      injection hr with hr
      subst hr
      exact ⟨some (i, en.val), by simp [Instr.findAsking, hs _ hq], en.val, rfl, h2⟩
    · rename_i hq
      obtain ⟨r', h5, h6⟩ := findAsk_run hk hx w es l' (i + 1) r h4 hr
      exact ⟨r', by simp [Instr.findAsking, hs _ hq, h5], h6⟩
    · cases hr

theorem findKey_run {kt : KT} {t : TypeId} (hk : ktM P t kt = true) {a : AV} {x : Value} (hx : VRel ρ a x) (w : World) {es : List (AV × AV × Nat)} {l : List MapEntry} {r : Option (Nat × AV)} (hl : ERel ρ es l) (hr : findE kt a es 0 = some r) :
    ∃ r', (Instr.findKey t x l).run P w = .ok r' w ∧ FRel ρ r r' := by
  cases kt with
  | one k =>
    have hk' : kM P t k = true := hk
    obtain ⟨d, hd⟩ : ∃ d, P.underlying t = some d := by
      unfold kM at hk'
      split at hk' <;> rename_i hu <;> (try (cases hk'; done)) <;> exact ⟨_, hu⟩
    obtain ⟨r', h1, h2⟩ := findNow_run hk' hd hx es l 0 r hl hr
    exact ⟨r', by simp [Instr.findKey, run_underlying hd, h1], h2⟩
  | st ks =>
    obtain ⟨r', h1, h2⟩ := findAsk_run hk hx w es l 0 r hl hr
    obtain ⟨fs, hu⟩ : ∃ fs, P.underlying t = some (.struct fs) := by
      unfold ktM at hk
      simp only at hk
      split at hk
      · exact ⟨_, by assumption⟩
      · cases hk
    refine ⟨r', ?_, h2⟩
    cases l with
    | nil =>
      simp [Instr.findAsking] at h1
      simp [Instr.findKey, run_underlying hu, Instr.findNow, h1]
    | cons en l =>
      simp [Instr.findKey, run_underlying hu, Instr.findNow, Instr.sameNow, h1]

theorem okPair_rel {ok b : Bool} {a : AV} {x : Value} (hx : VRel ρ a x) : VRel ρ (okPair ok a b) (if ok then .tuple #[x, .bool b] else x) := by
  cases ok
  · exact hx
  · simp only [okPair, bf_true, if_true, VRel]
    exact ⟨_, rfl, by simp [VRelL, VRel, hx]⟩

theorem s_lookup (k : Inv P K W0 ρ h w) (H : ∀ x X, m x X = true → VRel ρ (e X) (f x)) {kt : KT} {z : AV} {ok : Bool} {M Kk : Opd} (hm : mLookup P m o.op kt z ok M Kk = true) (hv : vLookup h kt z ok (e M) (e Kk) = some v) : QOk P w ρ f o v := by
  unfold mLookup at hm
  split at hm
  · rename_i t x ix c ho
    simp only [Bool.and_eq_true] at hm
    obtain ⟨⟨⟨h1, h2⟩, h3⟩, hm⟩ := hm
    have h1 := beqB_iff.1 h1
    subst h1
    have hx := H _ _ h2
    have hkk := H _ _ h3
    split at hm
    · rename_i kty el hu
      simp only [Bool.and_eq_true] at hm
      obtain ⟨hkt, hz⟩ := hm
      unfold zeroIsV at hz
      split at hz
      · rename_i ti hti
        split at hz
        · rename_i zv hzv
          have hzr := cAV_sound hz ρ
          have hzero : (zeroValue el).run P w = .ok zv w := by simp [zeroValue, typeInfo, hti, hzv]
          unfold vLookup at hv
          obtain ⟨hko, hv⟩ := bf_some hv
          have hck := fun em => checkKey_run hkt hkk hko em 9998 w
          split at hv
          · rename_i he
            rw [he] at hx
            simp only [VRel] at hx
            injection hv with hv
            refine ⟨if c then .tuple #[zv, .bool false] else zv, ?_, by rw [← hv]; exact okPair_rel hzr⟩
            obtain ⟨r', hr1, hr2⟩ := findKey_run hkt hkk w (es := []) (l := []) (r := none) (by simp [ERel]) rfl
            simp only [FRel] at hr2
            subst hr2
            simp [execOp, ho, hx, Instr.lookup, run_underlying hu, hck, hr1, hzero]
          · rename_i id he
            rw [he] at hx
            simp only [VRel] at hx
            obtain ⟨r, hr, hx⟩ := hx
            rw [getObj_eq] at hv
            split at hv
            · rename_i es cl hg
              obtain ⟨es', hw, hes⟩ := k.obj _ _ _ hg hr
              split at hv
              · rename_i i vv hf
                injection hv with hv
                obtain ⟨r', hr1, hr2⟩ := findKey_run hkt hkk w hes hf
                obtain ⟨u, rfl, hu2⟩ := hr2
                refine ⟨if c then .tuple #[u, .bool true] else u, ?_, by rw [← hv]; exact okPair_rel hu2⟩
                simp [execOp, ho, hx, Instr.lookup, run_underlying hu, run_getObj_map hw, hck, hr1]
              · rename_i hf
                injection hv with hv
                obtain ⟨r', hr1, hr2⟩ := findKey_run hkt hkk w hes hf
                simp only [FRel] at hr2
                subst hr2
                refine ⟨if c then .tuple #[zv, .bool false] else zv, ?_, by rw [← hv]; exact okPair_rel hzr⟩
                simp [execOp, ho, hx, Instr.lookup, run_underlying hu, run_getObj_map hw, hck, hr1, hzero]
              · cases hv
            · cases hv
          · cases hv
        · cases hz
      · cases hz
    · cases hm
  · cases hm

end
end
end Go.Absm

/- The abstract machine: operations that change nothing, the last part. -/
namespace Go.Absm
noncomputable section
set_option linter.unusedVariables false
set_option linter.unusedSectionVars false

section
variable {P : Program} {K : CK} {W0 w : World} {ρ : Rho} {h : AHeap} {m : Operand → Opd → Bool} {e : Opd → AV} {f : Operand → Value} {o : Oper} {v : AV}

/-! ### Rows of bytes -/
/-- A row of bytes, as numbers. -/
theorem strOf_vals : ∀ (ls : List (List AV)) (n x : Nat) (vs : List Value), strOf ls = some (n, x) → VRelL ρ (joinL ls) vs → ∃ ns : List Nat, ns.length = n ∧ vs = ns.map (fun (b : Nat) => Value.int .u8 (b : Int)) ∧ (∀ b ∈ ns, b < 256) ∧ strL n x = ns.map UInt8.ofNat ∧ x < 256 ^ n
  | [], n, x, vs, h, hv => by
    simp only [strOf] at h
    injection h with h
    simp only [Prod.mk.injEq] at h
    obtain ⟨rfl, rfl⟩ := h
    simp [joinL] at hv
    exact ⟨[], rfl, by simp [hv], by simp, by simp [strL], by simp⟩
  | l :: ls, n, x, vs, h, hv => by
    unfold strOf at h
    split at h
    · rename_i heq; cases heq
    · rename_i b r heq
      cases heq
      replace h := bf_some h
      obtain ⟨hb, h⟩ := h
      have hb : b < 256 := blt_iff.1 hb
      split at h
      · rename_i n' x' hr
        injection h with h
        simp only [Prod.mk.injEq] at h
        obtain ⟨rfl, rfl⟩ := h
        simp only [joinL, List.singleton_append] at hv
        obtain ⟨u, us, rfl, h1, h2⟩ := VRelL.cons.1 hv
        simp only [VRel] at h1
        obtain ⟨ns, h3, rfl, h4, h5, h6⟩ := strOf_vals ls n' x' us hr h2
        refine ⟨b :: ns, by simp [h3], by simp [h1], ?_, ?_, ?_⟩
        · intro c hc
          rcases List.mem_cons.1 hc with rfl | hc
          · exact hb
          · exact h4 c hc
        · show strL (n' + 1) (b + 256 * x') = _
          simp only [strL, List.map_cons]
          have e1 : (b + 256 * x') % 256 = b := by omega
          have e2 : (b + 256 * x') / 256 = x' := by omega
          rw [e1, e2, h5]
        · show b + 256 * x' < 256 ^ (n' + 1)
          rw [Nat.pow_succ]
          omega
      · cases h
    · cases h

theorem srcElems_sl (k : Inv P K W0 ρ h w) {sz : Nat} {id : Pos} {off len cap : Nat} {ex : Bool} {r : Ref} (hr : ρ id = some r) {ls : List (List AV)} (hs : srcElems h sz (.sl id off len cap ex) = some ls) (hlen : len ≠ 0) :
    0 < sz ∧ off % sz = 0 ∧ ls.length = len ∧ (∀ l ∈ ls, l.length = sz) ∧ ∃ vs : List Value, vs.length = len * sz ∧ VRelL ρ (joinL ls) vs ∧ w.rangeAt r.blk (r.base + off) vs := by
  simp only [srcElems] at hs
  cases hz : Nat.beq len 0 with
  | true => exact absurd (beq_iff.1 hz) hlen
  | false =>
    rw [hz] at hs
    simp only [bf_false, getObj_eq] at hs
    split at hs
    · rename_i sz' ty fz cnt m' hg
      replace hs := bf_some hs
      obtain ⟨hc, hs⟩ := hs
      simp only [Bool.and_eq_true, beq_iff, ble_iff] at hc
      obtain ⟨⟨c1, c2⟩, c3⟩ := hc
      subst c1
      have kr := k.obj _ _ _ hg hr
      obtain ⟨c, fr, h1, h2, h3, h4⟩ := kr.ex
      obtain ⟨e1, e2, vs, h5, h6, h7⟩ := elems_vals kr.pos h3 _ _ _ hs c3
      refine ⟨kr.pos, c2, e1, e2, vs, h5, h6, fun j v hj => ?_⟩
      have e3 : off / sz * sz = off := Nat.div_mul_cancel (Nat.dvd_of_mod_eq_zero c2)
      simp only [World.cell?, h1]
      have := h7 j v hj
      rw [show Nat.div off sz * sz = off from e3] at this
      simpa using this
    · cases hs

theorem foldl_push (ns : List Nat) (hn : ∀ b ∈ ns, b < 256) (s : ByteArray) : ((ns.map (fun (b : Nat) => (b : Int))).foldl (fun r n => r.push (UInt8.ofNat n.toNat)) s).data.toList = s.data.toList ++ ns.map UInt8.ofNat := by
  induction ns generalizing s with
  | nil => simp
  | cons b ns ih =>
    simp only [List.map_cons, List.foldl_cons]
    rw [ih (fun c hc => hn c (List.mem_cons_of_mem _ hc))]
    have : (s.push (UInt8.ofNat (b : Int).toNat)).data.toList = s.data.toList ++ [UInt8.ofNat b] := by
      cases s; simp [ByteArray.push]
    rw [this]
    simp

theorem s_b2s (k : Inv P K W0 ρ h w) (H : ∀ x X, m x X = true → VRel ρ (e X) (f x)) {X : Opd} (hm : mB2s P m o.op X = true) (hv : vB2s h (e X) = some v) : QOk P w ρ f o v := by
  unfold mB2s at hm
  split at hm
  · rename_i s d x ho
    simp only [Bool.and_eq_true] at hm
    obtain ⟨⟨hmx, hd⟩, hs⟩ := hm
    have hx := H _ _ hmx
    unfold strT at hd
    split at hd
    · rename_i hud
      split at hs
      · rename_i el hus
        unfold intT at hs
        split at hs
        · rename_i j hue
          have hj := ik_iff.1 hs
          subst hj
          unfold vB2s at hv
          split at hv
          · rename_i he
            rw [he] at hx
            simp only [VRel] at hx
            injection hv with hv
            refine ⟨.string .empty, ?_, ?_⟩
            · simp only [execOp, ho, hx]
              simp [run_convert_bytes_string w s d el none 0 0 hus hue hud, Conv.bytesToString]
            · rw [← hv]
              simp only [VRel]
              exact ⟨by congr 1, by omega⟩
          · rename_i id off len cap ex he
            rw [he] at hx
            simp only [VRel] at hx
            obtain ⟨r, a, c, hr, hx, ha, hcap, hlen, _⟩ := hx
            split at hv
            · rename_i ls hls
              split at hv
              · rename_i n xx hst
                injection hv with hv
                by_cases hz : len = 0
                · subst hz
                  have : ls = [] := by
                    simp only [srcElems] at hls
                    injection hls with hls
                    exact hls.symm
                  subst this
                  simp only [strOf] at hst
                  injection hst with hst
                  simp only [Prod.mk.injEq] at hst
                  obtain ⟨rfl, rfl⟩ := hst
                  refine ⟨.string .empty, ?_, ?_⟩
                  · simp only [execOp, ho, hx]
                    have := run_bytesToString (P := P) w a 0 c [] (by simp [Go.loadCells, Go.loadCellsFrom])
                    simp [run_convert_bytes_string w s d el (some a) 0 c hus hue hud, this]
                  · rw [← hv]
                    simp only [VRel]
                    exact ⟨by congr 1, by omega⟩
                · obtain ⟨hp, hoff, hl1, hl2, vs, hl3, hl4, hl5⟩ := srcElems_sl k hr hls hz
                  obtain ⟨ns, n1, n2, n3, n4, n5⟩ := strOf_vals ls n xx vs hst hl4
                  have ha := ha (by omega)
                  have hnl : len = n := by
                    have := hl3
                    rw [n2] at this
                    simp at this
                    omega
                  subst hnl
                  refine ⟨.string ((ns.map (fun (b : Nat) => (b : Int))).foldl (fun r n => r.push (UInt8.ofNat n.toNat)) ByteArray.empty), ?_, ?_⟩
                  · simp only [execOp, ho, hx]
                    have hld : (Go.loadCells a len).run P w = .ok ((ns.map (fun (b : Nat) => (b : Int))).map (Value.int .u8)).toArray w := by
                      have := run_loadCells_list (P := P) w a vs (fun j v hv => by rw [ha, Addr.add_mid]; exact hl5 j v hv)
                      rw [hl3, Nat.mul_one] at this
                      rw [this, n2]
                      simp
                    have := run_bytesToString (P := P) w a len c (ns.map (fun (b : Nat) => (b : Int))) hld
                    simp only [Sem.run_bind, run_convert_bytes_string w s d el (some a) len c hus hue hud, this, Result.andThen_ok, Sem.run_pure]
                  · rw [← hv]
                    simp only [VRel]
                    refine ⟨?_, n5⟩
                    congr 1
                    refine strBA_of ?_
                    rw [foldl_push ns n3, n4]
                    rfl
              · cases hv
            · cases hv
          · cases hv
        · cases hs
      · cases hs
    · cases hd
  · cases hm

theorem s_entry (k : Inv P K W0 ρ h w) (H : ∀ x X, m x X = true → VRel ρ (e X) (f x)) {X : Opd} (hm : mEntry m o.op X = true) (hv : vEntry h (e X) = some v) : QOk P w ρ f o v := by
  unfold mEntry at hm
  split at hm
  · rename_i x ho
    have hx := H _ _ hm
    unfold vEntry at hv
    split at hv
    · rename_i id he
      rw [he] at hx
      simp only [VRel] at hx
      obtain ⟨r, hr, hx⟩ := hx
      simp only [getObj_eq] at hv
      split at hv
      · rename_i mm since s stepped hg
        obtain ⟨hb, m', hw, q, hq, hm'⟩ := k.obj _ _ _ hg hr
        subst hm'
        split at hv
        · rename_i kk vv b clock hg2
          replace hv := bf_some hv
          obtain ⟨hc, hv⟩ := hv
          simp only [Bool.and_eq_true, beq_iff] at hc
          obtain ⟨c1, c2⟩ := hc
          subst c1 c2
          injection hv with hv
          obtain ⟨es', hw2, en, l', hl, h1, h2, h3, h4⟩ := k.obj _ _ _ hg2 hq
          simp only [ERel] at h4
          subst h4
          have hes : es' = #[en] := by rw [← Array.toArray_toList (xs := es'), hl]
          subst hes
          refine ⟨.tuple #[en.key, en.val], ?_, ?_⟩
          · have g1 : (Go.getObj r.blk).run P w = .ok (.mapIter (some q.blk) since #[b] clock) w := by simp [Go.getObj, Sem.run, hw]
            have g2 := run_getObj_map (P := P) hw2
            rw [hb] at hx
            simp [execOp, ho, hx, Instr.entry, g1, g2, h3]
          · rw [← hv]
            simp only [VRel]
            exact ⟨_, rfl, VRelL.cons'.2 ⟨h1, VRelL.cons'.2 ⟨h2, VRelL.nil.2 rfl⟩⟩⟩
        · cases hv
      · cases hv
    · cases hv
  · cases hm

theorem find_congr {α : Type} {p q : α → Bool} : ∀ {l : List α}, (∀ x ∈ l, p x = q x) → l.find? p = l.find? q
  | [], _ => rfl
  | a :: l, h => by
    simp only [List.find?_cons, h a (List.mem_cons_self ..)]
    rw [find_congr fun x hx => h x (List.mem_cons_of_mem _ hx)]

theorem idxByte_spec : ∀ (n v c i : Nat), idxByte n v c i = match (List.range' i n).find? (fun j => Nat.beq (v / 256 ^ (j - i) % 256) c) with | some j => Int.ofNat j | none => .negSucc 0
  | 0, v, c, i => by simp [idxByte]
  | n + 1, v, c, i => by
    simp only [idxByte, List.range'_succ, List.find?_cons, Nat.sub_self, Nat.pow_zero, Nat.div_one]
    cases hb : Nat.beq (v % 256) c with
    | true => rfl
    | false =>
      simp only [bf_false]
      rw [idxByte_spec n (Nat.div v 256) c (i + 1)]
      have : (List.range' (i + 1) n).find? (fun j => Nat.beq (Nat.div v 256 / 256 ^ (j - (i + 1)) % 256) c) = (List.range' (i + 1) n).find? (fun j => Nat.beq (v / 256 ^ (j - i) % 256) c) := by
        refine find_congr fun j hj => ?_
        have hj : i + 1 ≤ j := by simp [List.mem_range'] at hj; omega
        have : j - i = (j - (i + 1)) + 1 := by omega
        rw [this, Nat.pow_succ, Nat.mul_comm, ← Nat.div_div_eq_div_mul]
        rfl
      rw [this]

theorem firstIdx_strBA (n x c : Nat) (hc : c < 256) : firstIdx (strBA n x) (UInt8.ofNat c) = idxByte n x c 0 := by
  rw [idxByte_spec, firstIdx, strBA_size, List.range_eq_range']
  have : (List.range' 0 n).find? (fun i => (strBA n x)[i]! == UInt8.ofNat c) = (List.range' 0 n).find? (fun j => Nat.beq (x / 256 ^ (j - 0) % 256) c) := by
    refine find_congr fun j hj => ?_
    have hj : j < n := by simp [List.mem_range'] at hj; omega
    have hg : (strBA n x)[j]! = UInt8.ofNat (x / 256 ^ j % 256) := by
      have hs : j < (strBA n x).size := by rw [strBA_size]; exact hj
      have h1 := strL_get n x j hj
      rw [← strBA_data] at h1
      have h2 := (List.getElem?_eq_some_iff.1 h1).2
      rw [getElem!_pos (strBA n x) j hs, ← h2]
      simp [ByteArray.getElem_eq_getElem_data]
    rw [hg]
    refine Bool.eq_iff_iff.2 ?_
    simp only [beq_iff_eq, beq_iff, Nat.sub_zero]
    exact ⟨fun h => u8_inj (Nat.mod_lt _ (by omega)) hc h, fun h => by rw [h]⟩
  rw [this]
  cases (List.range' 0 n).find? (fun j => Nat.beq (x / 256 ^ (j - 0) % 256) c) <;> rfl

theorem s_idxb {tmps : Array Value} (H : ∀ x X, m x X = true → VRel ρ (e X) (evalIn tmps x)) {X C : Opd} (hm : mIdxb P m o.op X C = true) (hv : vIdxb (e X) (e C) = some v) : QOk P w ρ (evalIn tmps) o v := by
  unfold mIdxb at hm
  split at hm
  · rename_i c ho
    simp only [Bool.and_eq_true] at hm
    obtain ⟨hc, hm⟩ := hm
    split at hm
    · rename_i x y hargs
      simp only [Bool.and_eq_true] at hm
      have hx := H _ _ hm.1
      have hy := H _ _ hm.2
      unfold vIdxb at hv
      split at hv
      · rename_i n s k c' hex hey
        rw [hex] at hx
        rw [hey] at hy
        simp only [VRel] at hx hy
        replace hv := bf_some hv
        obtain ⟨hk, hv⟩ := hv
        simp only [Bool.and_eq_true, blt_iff] at hk
        have hk8 : k = .u8 := ik_iff.1 (show Nat.beq (ikNum k) (ikNum .u8) = true from hk.1)
        subst hk8
        injection hv with hv
        refine ⟨.int .i64 (idxByte n s c' 0), ?_, by rw [← hv]; simp only [VRel]⟩
        have := isExt_run (tmps := tmps) hc (by kernel_rfl) (by kernel_rfl) (by kernel_rfl) (g := Extern.BytealgIndexByte.indexByte) (by rfl) o.type w
        simp only [execOp, ho]
        rw [this, args2 hargs, hx.1, hy, run_indexByte_string]
        rw [← firstIdx_strBA n s c' hk.2]
        rfl
      · cases hv
    · cases hm
  · cases hm

/-! ### Pointers that are no pointers to a type -/
theorem rowAt_shift {P : Program} {fits : TypeId → Bool} {d : Nat} {e : TypeId} {c c' off n b : Nat} (hc : b + c ≤ c') (h : rowAt P fits d e c off n = true) : rowAt P fits d e c' (b * P.cellsOf e + off) n = true := by
  cases d with
  | zero => simp [rowAt] at h
  | succ d =>
    unfold rowAt at h ⊢
    simp only at h ⊢
    by_cases hs : P.cellsOf e = 0
    · rw [if_pos hs] at h; cases h
    · rw [if_neg hs] at h ⊢
      have h1 : (b * P.cellsOf e + off) / P.cellsOf e = b + off / P.cellsOf e := by
        rw [Nat.mul_comm, Nat.mul_add_div (Nat.pos_of_ne_zero hs)]
      have h2 : (b * P.cellsOf e + off) % P.cellsOf e = off % P.cellsOf e := by
        rw [Nat.mul_comm, Nat.mul_add_mod]
      rw [h1, h2]
      simp only [Bool.or_eq_true, Bool.and_eq_true, decide_eq_true_eq] at h ⊢
      rcases h with ⟨⟨h3, h4⟩, h5⟩ | ⟨h3, h4⟩
      · exact .inl ⟨⟨h3, by omega⟩, h5⟩
      · exact .inr ⟨by omega, h4⟩

theorem liesAt_shift {P : Program} {e u : TypeId} {c c' off b : Nat} (hc : b + c ≤ c') : ∀ (d : Nat) (u : TypeId) (n : Nat), liesAt P d e c off u n = true → liesAt P d e c' (b * P.cellsOf e + off) u n = true
  | 0, u, n, h => by simp [liesAt] at h
  | d + 1, u, n, h => by
    unfold liesAt at h ⊢
    simp only [Bool.or_eq_true] at h ⊢
    rcases h with h | h
    · exact .inl (rowAt_shift hc h)
    · right
      split at h
      · exact liesAt_shift (u := u) hc d _ _ h
      · cases h

theorem s_usp (k : Inv P K W0 ρ h w) (H : ∀ x X, m x X = true → VRel ρ (e X) (f x)) {X : Opd} (hm : mUsp P m o.op X = true) (hv : vUsp h (e X) = some v) : QOk P w ρ f o v := by
  unfold mUsp at hm
  split at hm
  · rename_i s d x ho
    simp only [Bool.and_eq_true] at hm
    obtain ⟨hmx, hm⟩ := hm
    have hx := H _ _ hmx
    split at hm
    · rename_i t hs hd
      split at hm
      · rename_i j hj
        have hj0 : j.size ≠ 0 := by intro h0; rw [h0] at hm; simp at hm
        unfold vUsp at hv
        split at hv
        · rename_i he
          rw [he] at hx
          simp only [VRel] at hx
          injection hv with hv
          refine ⟨.pointer none, ?_, by rw [← hv]; simp only [VRel]⟩
          simp [execOp, ho, hx, convert, run_underlying hs, run_underlying hd, Conv.unsafePointer]
        · rename_i id off he
          rw [he] at hx
          simp only [VRel] at hx
          obtain ⟨r, hr, hx⟩ := hx
          rw [getObj_eq] at hv
          split at hv
          · rename_i sz ty fz cnt mm hg
            replace hv := bf_some hv
            obtain ⟨hlt, hv⟩ := hv
            have hlt : off < sz * cnt := blt_iff.1 hlt
            injection hv with hv
            have kr := k.obj _ _ _ hg hr
            obtain ⟨c, fr, h1, h2, h3, h4⟩ := kr.ex
            refine ⟨.pointer (some ⟨r.blk, r.base + off, none⟩), ?_, by rw [← hv]; simp only [VRel]; exact ⟨r, hr, rfl⟩⟩
            have hcap := kr.cap
            have := Lib.run_to_unsafe (P := P) w (src := s) (dst := d) (e := ty) (cells := c.size) ⟨r.blk, r.base + off, none⟩ hs hd hj hj0 (by simp [World.shape?, h1]) (by
              show r.base + off < c.size
              have := Nat.mul_comm sz cnt
              omega)
            simp [execOp, ho, hx, this]
          · cases hv
        · cases hv
      · cases hm
    · cases hm
  · cases hm

theorem okLies_mem {u : TypeId} : ∀ {l : List (Nat × Nat × Nat × Nat)} {t s c off : Nat}, okLies P u l = true → inList4 t s c off l = true → P.cellsOf t = s ∧ liesAt P P.depth t c off u 1 = true
  | [], _, _, _, _, _, h => by simp [inList4] at h
  | (t', s', c', off') :: l, t, s, c, off, hl, h => by
    simp only [okLies, Bool.and_eq_true] at hl
    simp only [inList4, Bool.or_eq_true, Bool.and_eq_true, beq_iff] at h
    rcases h with ⟨⟨⟨rfl, rfl⟩, rfl⟩, rfl⟩ | h
    · exact ⟨beq_iff.1 hl.1.1, hl.1.2⟩
    · exact okLies_mem hl.2 h

theorem s_spu (k : Inv P K W0 ρ h w) (H : ∀ x X, m x X = true → VRel ρ (e X) (f x)) {u : Nat} {ok : List (Nat × Nat × Nat × Nat)} {X : Opd} (hm : mSpu P m o.op u ok X = true) (hv : vSpu h ok (e X) = some v) : QOk P w ρ f o v := by
  unfold mSpu at hm
  split at hm
  · rename_i s d x ho
    simp only [Bool.and_eq_true] at hm
    obtain ⟨hmx, hm⟩ := hm
    have hx := H _ _ hmx
    split at hm
    · rename_i pv hs hd
      simp only [Bool.and_eq_true] at hm
      obtain ⟨hi, hok⟩ := hm
      obtain ⟨j, hj⟩ := Option.isSome_iff_exists.1 hi
      unfold vSpu at hv
      split at hv
      · rename_i he
        rw [he] at hx
        simp only [VRel] at hx
        injection hv with hv
        refine ⟨.pointer none, ?_, by rw [← hv]; simp only [VRel]⟩
        simp [execOp, ho, hx, convert, run_underlying hs, run_underlying hd, Conv.unsafePointer]
      · rename_i id off he
        rw [he] at hx
        simp only [VRel] at hx
        obtain ⟨r, hr, hx⟩ := hx
        rw [getObj_eq] at hv
        split at hv
        · rename_i sz ty fz cnt mm hg
          replace hv := bf_some hv
          obtain ⟨hin, hv⟩ := hv
          injection hv with hv
          obtain ⟨hsz, hlies⟩ := okLies_mem hok hin
          have kr := k.obj _ _ _ hg hr
          obtain ⟨c, fr, h1, h2, h3, h4⟩ := kr.ex
          refine ⟨.pointer (some ⟨r.blk, r.base + off, none⟩), ?_, by rw [← hv]; simp only [VRel]; exact ⟨r, hr, rfl⟩⟩
          have hcap := kr.cap
          have hb : r.base / sz * sz = r.base := Nat.div_mul_cancel (Nat.dvd_of_mod_eq_zero kr.mod)
          have hl2 : liesAt P P.depth ty (c.size / P.cellsOf ty) (r.base + off) pv 1 = true := by
            have := liesAt_shift (P := P) (e := ty) (u := pv) (c := cnt) (c' := c.size / P.cellsOf ty) (off := off) (b := r.base / sz) (by
              rw [hsz, Nat.le_div_iff_mul_le kr.pos, Nat.add_mul, hb, h2]
              omega) _ _ _ hlies
            rw [hsz, hb] at this
            rw [hsz]
            exact this
          have := Lib.run_from_unsafe (P := P) w (src := s) (dst := d) (e := ty) (cells := c.size) ⟨r.blk, r.base + off, none⟩ hs hd hj (by simp [World.shape?, h1]) hl2
          simp [execOp, ho, hx, this]
        · cases hv
      · cases hv
    · cases hm
  · cases hm

theorem s_usd (H : ∀ x X, m x X = true → VRel ρ (e X) (f x)) {X : Opd} (hm : mUsd m o.op X = true) (hv : vUsd (e X) = some v) : QOk P w ρ f o v := by
  unfold mUsd at hm
  split at hm
  · rename_i args ats ho
    split at hm
    · rename_i x hargs
      have hx := H _ _ hm
      have hrun : (execOp f o).run P w = ((Builtin.unsafeSliceData_ ats o.type #[f x]).run P w).andThen fun v w' => .ok (.value v) w' := by
        simp [execOp, ho, resolve, invoke, builtin, args1 hargs]
      unfold vUsd at hv
      split at hv
      · rename_i he
        rw [he] at hx
        simp only [VRel] at hx
        injection hv with hv
        refine ⟨.pointer none, ?_, by rw [← hv]; simp only [VRel]⟩
        rw [hrun, hx]
        rfl
      · rename_i id off len cap ex he
        rw [he] at hx
        simp only [VRel] at hx
        obtain ⟨r, a, c, hr, hx, ha, hcap, hlen, _⟩ := hx
        replace hv := bf_none hv
        obtain ⟨hz, hv⟩ := hv
        injection hv with hv
        have hc0 : cap ≠ 0 := by intro h0; subst h0; simp at hz
        have hc : c ≠ 0 := by omega
        refine ⟨.pointer (some ⟨r.blk, r.base + off, none⟩), ?_, by rw [← hv]; simp only [VRel]; exact ⟨r, hr, rfl⟩⟩
        rw [hrun, hx, ha hc]
        have : (Builtin.unsafeSliceData_ ats o.type #[.slice (some ⟨r.blk, r.base + off, none⟩) len c]).run P w = .ok (.pointer (some ⟨r.blk, r.base + off, none⟩)) w := by
          show Sem.run P (if c ≠ 0 then pure (Value.pointer (some ⟨r.blk, r.base + off, none⟩)) else _) w = _
          rw [if_pos hc]
          rfl
        rw [this]
        rfl
      · cases hv
    · cases hm
  · cases hm

end
end
end Go.Absm

/- The abstract machine: quiet operations together; how memory is made and written. -/
namespace Go.Absm
noncomputable section
set_option linter.unusedVariables false
set_option linter.unusedSectionVars false

/-- May this quiet operation stand for the program's? -/
def opmQ (P : Program) (m : Operand → Opd → Bool) (o : Op) (q : QOp) : Bool :=
  match q with
  | .mv x => mMv P m o x
  | .pick c a b => mPick m o c a b
  | .build z ps => mBuild P m o z ps
  | .load1 x => mLoad1 P m o x
  | .loadN n x => mLoadN P m o n x
  | .nilck x => mNilck m o x
  | .bin op x y => mBin m o op x y
  | .eqk kt ng x y => mEqk P m o kt ng x y
  | .eq kd ng x y => mEq P m o kd ng x y
  | .not x => mNot m o x
  | .conv k x => mConv P m o k x
  | .b2s x => mB2s P m o x
  | .usp x => mUsp P m o x
  | .spu u ok x => mSpu P m o u ok x
  | .mkif t x => mMkif P m o t x
  | .mkfn f first cap => mMkfn m o f first cap
  | .slice sz x lo hi mx => mSlice P m o sz x lo hi mx
  | .sliceA sz n x lo hi => mSliceA P m o sz n x lo hi
  | .sliceS x lo hi => mSliceS P m o x lo hi
  | .faddr off x => mFaddr P m o off x
  | .iaddr sz x i => mIaddr P m o sz x i
  | .indexS x i => mIndexS P m o x i
  | .indexA1 n x i => mIndexA1 P m o n x i
  | .lookup kt z ok mm k => mLookup P m o kt z ok mm k
  | .extract i x => mExtract m o i x
  | .len kd x => mLen P m o kd x
  | .capS x => mCap P m o x
  | .entry x => mEntry m o x
  | .usd x => mUsd m o x
  | .idxb s c => mIdxb P m o s c
  | .isnil ng x => mIsnil P m o ng x

section
variable {P : Program} {K : CK} {W0 w : World} {ρ : Rho} {h : AHeap} {m : Operand → Opd → Bool} {o : Oper} {v : AV} {sc : List AV} {env : T AV}

theorem q_sound {tmps : Array Value} (k : Inv P K W0 ρ h w) (H : ∀ x X, m x X = true → VRel ρ (ev X sc env) (evalIn tmps x)) {q : QOp} (hm : opmQ P m o.op q = true) (hv : evalQ q h sc env = some v) :
    QOk P w ρ (evalIn tmps) o v := by
  cases q <;> simp only [opmQ] at hm <;> simp only [evalQ] at hv
  · injection hv with hv; subst hv; exact s_mv (e := fun X => ev X sc env) H hm
  · exact s_pick (e := fun X => ev X sc env) H hm hv
  · split at hv
    · rename_i l hl; injection hv with hv; subst hv; exact s_build H hm hl
    · cases hv
  · exact s_load1 (e := fun X => ev X sc env) k H hm hv
  · exact s_loadN (e := fun X => ev X sc env) k H hm hv
  · exact s_nilck (e := fun X => ev X sc env) H hm hv
  · exact s_bin (e := fun X => ev X sc env) H hm hv
  · exact s_eqk (e := fun X => ev X sc env) H hm hv
  · exact s_eq (e := fun X => ev X sc env) k H hm hv
  · exact s_not (e := fun X => ev X sc env) H hm hv
  · exact s_conv (e := fun X => ev X sc env) H (fun n => wrapF_eq _ n) hm hv
  · exact s_b2s (e := fun X => ev X sc env) k H hm hv
  · exact s_usp (e := fun X => ev X sc env) k H hm hv
  · exact s_spu (e := fun X => ev X sc env) k H hm hv
  · injection hv with hv; subst hv; exact s_mkif (e := fun X => ev X sc env) H hm
  · injection hv with hv; subst hv; exact s_mkfn H hm
  · split at hv
    · rename_i a b c ha hb hc; exact s_slice k H ha hb hc hm hv
    · cases hv
  · split at hv
    · rename_i a b ha hb; exact s_sliceA k H ha hb hm hv
    · cases hv
  · split at hv
    · rename_i a b ha hb; exact s_sliceS H ha hb hm hv
    · cases hv
  · exact s_faddr (e := fun X => ev X sc env) H hm hv
  · exact s_iaddr (e := fun X => ev X sc env) H hm hv
  · exact s_indexS (e := fun X => ev X sc env) H hm hv
  · exact s_indexA1 (e := fun X => ev X sc env) H hm hv
  · exact s_lookup (e := fun X => ev X sc env) k H hm hv
  · exact s_extract (e := fun X => ev X sc env) H hm hv
  · exact s_len (e := fun X => ev X sc env) k H hm hv
  · exact s_cap (e := fun X => ev X sc env) H hm hv
  · exact s_entry (e := fun X => ev X sc env) k H hm hv
  · exact s_usd (e := fun X => ev X sc env) H hm hv
  · exact s_idxb (e := fun X => ev X sc env) H hm hv
  · exact s_isnil (e := fun X => ev X sc env) H hm hv

/-! ### New memory -/
open Classical in
noncomputable def Rho.put (ρ : Rho) (id : Pos) (r : Ref) : Rho := fun i => if i = id then some r else ρ i

theorem Rho.le_put {ρ : Rho} {id : Pos} (h : ρ id = none) (r : Ref) : ρ.le (ρ.put id r) := by
  intro i q hi
  unfold Rho.put
  split
  · rename_i he; rw [he, h] at hi; cases hi
  · exact hi
theorem Rho.put_self (ρ : Rho) (id : Pos) (r : Ref) : ρ.put id r id = some r := by simp [Rho.put]
theorem Rho.put_ne (ρ : Rho) {id i : Pos} (r : Ref) (h : i ≠ id) : ρ.put id r i = ρ i := by simp [Rho.put, h]

theorem heap_alloc_lt (w : World) (o : Obj) {B : Nat} (hB : B < w.heap.size) : (w.alloc o).heap[B]? = w.heap[B]? := by
  unfold World.alloc
  rw [Array.getElem?_push, if_neg (Nat.ne_of_lt hB)]
theorem heap_alloc_new (w : World) (o : Obj) : (w.alloc o).heap[w.heap.size]? = some o := by
  unfold World.alloc
  rw [Array.getElem?_push, if_pos rfl]

theorem Inv.drew (k : Inv P K W0 ρ h w) : Inv P K W0 ρ h w.drew := by
  obtain ⟨a, b, c, d, e, f, g, i, j, l, n⟩ := k
  exact ⟨fun id o r h1 h2 => (a id o r h1 h2).mono (Rho.le_refl _) rfl, b, c, d, e, f, g, i, j, l, n⟩

/-- An object is given its place: a block that is made now. -/
theorem Inv.made (k : Inv P K W0 ρ h w) {id : Pos} {oo : AObj} (hid : id.toNat < h.next.toNat) (hρ : ρ id = none) (hg : h.t.get id = some oo) {r : Ref} (hr : r.blk = w.heap.size) {obj : Obj}
    (hO : ORel K (ρ.put id r) r (w.alloc obj) oo) : Inv P K W0 (ρ.put id r) h (w.alloc obj) := by
  have le := Rho.le_put hρ r
  refine ⟨?_, ?_, ?_, ?_, ?_, ?_, ?_, ?_, k.os, k.tape, k.output⟩
  · intro i o q hi hq
    by_cases he : i = id
    · subst he
      rw [Rho.put_self] at hq
      injection hq with hq
      subst hq
      rw [hg] at hi
      injection hi with hi
      subst hi
      exact hO
    · rw [Rho.put_ne _ _ he] at hq
      refine (k.obj i o q hi hq).mono le ?_
      have := k.bound i q hq
      exact heap_alloc_lt w obj this
  · intro i j o o' q q' hi hj ho ho' hq hq' hb
    by_cases he : i = id
    · by_cases he' : j = id
      · rw [he, he']
      · subst he
        rw [Rho.put_self] at hq
        rw [Rho.put_ne _ _ he'] at hq'
        injection hq with hq
        subst hq
        have := k.bound j q' hq'
        omega
    · by_cases he' : j = id
      · subst he'
        rw [Rho.put_self] at hq'
        rw [Rho.put_ne _ _ he] at hq
        injection hq' with hq'
        subst hq'
        have := k.bound i q hq
        omega
      · rw [Rho.put_ne _ _ he] at hq
        rw [Rho.put_ne _ _ he'] at hq'
        exact k.inj i j o o' q q' hi hj ho ho' hq hq' hb
  · intro i hi
    have hne : i ≠ id := by intro he; subst he; omega
    rw [Rho.put_ne _ _ hne]
    exact k.fresh i hi
  · intro i q hq
    by_cases he : i = id
    · subst he
      rw [Rho.put_self] at hq
      injection hq with hq
      subst hq
      simp [hr]
    · rw [Rho.put_ne _ _ he] at hq
      have := k.bound i q hq
      simp
      omega
  · intro i o q hi hw hq
    by_cases he : i = id
    · subst he
      rw [Rho.put_self] at hq
      injection hq with hq
      subst hq
      rw [hr]
      exact k.grown
    · rw [Rho.put_ne _ _ he] at hq
      exact k.own i o q hi hw hq
  · intro p hp
    obtain ⟨q, h1, h2, h3⟩ := k.glob p hp
    exact ⟨q, le _ _ h1, h2, h3⟩
  · intro B hB
    have : B < w.heap.size := Nat.lt_of_lt_of_le hB k.grown
    rw [← k.base B hB]
    exact heap_alloc_lt w obj this
  · have := k.grown
    simp
    omega

/-- An object without a place is laid. -/
theorem Inv.laid (k : Inv P K W0 ρ h w) (oo : AObj) : Inv P K W0 ρ (newBlock h oo).2 w ∧ (newBlock h oo).1 = h.next ∧ (newBlock h oo).2.t.get h.next = some oo ∧ (newBlock h oo).2.next.toNat = h.next.toNat + 1 ∧ ρ h.next = none := by
  obtain ⟨t, n⟩ := h
  have hf := (k.fresh n (Nat.le_refl _)).1
  refine ⟨⟨?_, ?_, ?_, k.bound, ?_, k.glob, k.base, k.grown, k.os, k.tape, k.output⟩, rfl, by simp [newBlock, T.get_set_same], by simp [newBlock], hf⟩
  · intro i o q hi hq
    have hne : i ≠ n := by intro he; subst he; rw [hf] at hq; cases hq
    simp only [newBlock, T.get_set, hne, if_false] at hi
    exact k.obj i o q hi hq
  · intro i j o o' q q' hi hj ho ho' hq hq' hb
    have hne : i ≠ n := by intro he; subst he; rw [hf] at hq; cases hq
    have hne' : j ≠ n := by intro he; subst he; rw [hf] at hq'; cases hq'
    simp only [newBlock, T.get_set, hne, if_false] at hi
    simp only [newBlock, T.get_set, hne', if_false] at hj
    exact k.inj i j o o' q q' hi hj ho ho' hq hq' hb
  · intro i hi
    simp only [newBlock, Pos.toNat_succ] at hi
    have hne : i ≠ n := by intro he; subst he; omega
    simp only [newBlock, T.get_set, hne, if_false]
    exact k.fresh i (by show n.toNat ≤ i.toNat; omega)
  · intro i o q hi hw hq
    have hne : i ≠ n := by intro he; subst he; rw [hf] at hq; cases hq
    simp only [newBlock, T.get_set, hne, if_false] at hi
    exact k.own i o q hi hw hq

/-- Both at once. -/
theorem Inv.new (k : Inv P K W0 ρ h w) {oo : AObj} {r : Ref} (hr : r.blk = w.heap.size) {obj : Obj} (hO : ORel K (ρ.put h.next r) r (w.alloc obj) oo) :
    Inv P K W0 (ρ.put h.next r) (newBlock h oo).2 (w.alloc obj) ∧ Fr ρ h (ρ.put h.next r) (newBlock h oo).2 := by
  obtain ⟨k1, e1, e2, e3, e4⟩ := k.laid oo
  refine ⟨k1.made (by rw [e3]; omega) e4 e2 hr hO, ⟨fun id hid => Rho.put_ne _ _ (by intro he; subst he; omega), by rw [e3]; omega⟩⟩

/-! ### Memory is written -/
theorem Inv.wrote (k : Inv P K W0 ρ h w) {id : Pos} {oo oo' : AObj} {r : Ref} (hg : h.t.get id = some oo) (hr : ρ id = some r) (hw : oo.writes = true) {w' : World}
    (hsame : ∀ B, B ≠ r.blk → w'.heap[B]? = w.heap[B]?) (hsize : w'.heap.size = w.heap.size) (hos : w'.os = w.os) (htape : w'.tape = w.tape) (hout : w'.output = w.output)
    (hlive : oo.live = true) (hO : ORel K ρ r w' oo') : Inv P K W0 ρ (setObj h id oo') w' ∧ Fr ρ h ρ (setObj h id oo') := by
  have hown := k.own id oo r hg hw hr
  refine ⟨⟨?_, ?_, ?_, ?_, ?_, k.glob, ?_, ?_, hos.trans k.os, htape.trans k.tape, hout.trans k.output⟩, ⟨fun _ _ => rfl, by rw [setObj_next]; exact Nat.le_refl _⟩⟩
  · intro i o q hi hq
    rw [setObj_t, T.get_set] at hi
    split at hi
    · rename_i he
      subst he
      injection hi with hi
      subst hi
      rw [hr] at hq
      injection hq with hq
      subst hq
      exact hO
    · rename_i hne
      cases hl : o.live with
      | false => cases o <;> simp [AObj.live] at hl; exact trivial
      | true =>
        refine (k.obj i o q hi hq).mono (Rho.le_refl _) (hsame _ fun hb => hne ?_)
        exact k.inj i id o oo q r hi hg hl hlive hq hr hb
  · intro i j o o' q q' hi hj ho ho' hq hq' hb
    rw [setObj_t] at hi hj
    have key : ∀ {i : Pos} {o : AObj}, (h.t.set id oo').get i = some o → o.live = true → ∃ o2, h.t.get i = some o2 ∧ o2.live = true := by
      intro i o hi ho
      rw [T.get_set] at hi
      split at hi
      · rename_i he; subst he; exact ⟨oo, hg, hlive⟩
      · exact ⟨o, hi, ho⟩
    obtain ⟨o1, h1, h2⟩ := key hi ho
    obtain ⟨o2, h3, h4⟩ := key hj ho'
    exact k.inj i j o1 o2 q q' h1 h3 h2 h4 hq hq' hb
  · intro i hi
    rw [setObj_next] at hi
    have hne : i ≠ id := by
      intro he
      subst he
      rw [(k.fresh i hi).1] at hr
      cases hr
    rw [setObj_t, T.get_set, if_neg hne]
    exact k.fresh i hi
  · intro i q hq
    rw [hsize]
    exact k.bound i q hq
  · intro i o q hi hw2 hq
    rw [setObj_t, T.get_set] at hi
    split at hi
    · rename_i he
      subst he
      rw [hr] at hq
      injection hq with hq
      subst hq
      exact hown
    · exact k.own i o q hi hw2 hq
  · intro B hB
    rw [hsame B (by omega)]
    exact k.base B hB
  · rw [hsize]; exact k.grown

end
end
end Go.Absm

/- The abstract machine: rows of elements, laid and written. -/
namespace Go.Absm
noncomputable section
set_option linter.unusedVariables false
set_option linter.unusedSectionVars false

theorem pos_ne {i j : Nat} (hi : i < lid) (hj : j < lid) (h : i ≠ j) : pos i ≠ pos j := fun e => h (pos_inj hi hj e)

theorem putElems_get : ∀ (ls : List (List AV)) (m : T (List AV)) (i j : Nat), i + ls.length ≤ lid → j < lid → (putElems ls m i).get (pos j) = if i ≤ j ∧ j < i + ls.length then ls[j - i]? else m.get (pos j)
  | [], m, i, j, _, _ => by
    have : ¬ (i ≤ j ∧ j < i + ([] : List (List AV)).length) := by simp
    rw [if_neg this]
    rfl
  | l :: ls, m, i, j, hi, hj => by
    simp only [List.length_cons] at hi
    simp only [putElems]
    rw [putElems_get ls _ (Nat.succ i) j (by simp only [Nat.succ_eq_add_one]; omega) hj]
    simp only [Nat.succ_eq_add_one, List.length_cons]
    by_cases h1 : i + 1 ≤ j ∧ j < i + 1 + ls.length
    · rw [if_pos h1, if_pos (by omega)]
      have : j - i = (j - (i + 1)) + 1 := by omega
      rw [this, List.getElem?_cons_succ]
    · rw [if_neg h1, T.get_set]
      by_cases h2 : j = i
      · subst h2
        rw [if_pos rfl, if_pos (by omega)]
        simp
      · rw [if_neg (pos_ne hj (by omega) h2), if_neg (by omega)]

theorem joinL_get {sz : Nat} : ∀ (ls : List (List AV)), (∀ l ∈ ls, l.length = sz) → ∀ a b, b < sz → (joinL ls)[a * sz + b]? = (ls[a]?).bind (·[b]?)
  | [], _, a, b, _ => by simp [joinL]
  | l :: ls, h, a, b, hb => by
    have hl := h l (List.mem_cons_self ..)
    simp only [joinL, List.getElem?_append]
    cases a with
    | zero => simp [hl, hb]
    | succ a =>
      have : ¬ ((a + 1) * sz + b < l.length) := by rw [hl, Nat.add_mul]; omega
      rw [if_neg this, hl]
      have e : (a + 1) * sz + b - sz = a * sz + b := by rw [Nat.add_mul]; omega
      rw [e, joinL_get ls (fun l hl => h l (List.mem_cons_of_mem _ hl)) a b hb]
      simp

theorem joinL_length {sz : Nat} : ∀ (ls : List (List AV)), (∀ l ∈ ls, l.length = sz) → (joinL ls).length = ls.length * sz
  | [], _ => by simp [joinL]
  | l :: ls, h => by
    simp only [joinL, List.length_append, List.length_cons, h l (List.mem_cons_self ..), joinL_length ls (fun l hl => h l (List.mem_cons_of_mem _ hl)), Nat.add_mul, Nat.one_mul]
    omega

theorem joinL_append (a b : List (List AV)) : joinL (a ++ b) = joinL a ++ joinL b := by
  induction a with
  | nil => rfl
  | cons l a ih => simp [joinL, ih]

theorem reptE_length (z : List AV) (n : Nat) : (reptE z n).length = n := by
  induction n with
  | zero => rfl
  | succ n ih => simp [reptE, ih]
theorem reptE_mem {z l : List AV} {n : Nat} (h : l ∈ reptE z n) : l = z := by
  induction n with
  | zero => simp [reptE] at h
  | succ n ih =>
    simp only [reptE, List.mem_cons] at h
    rcases h with h | h
    · exact h
    · exact ih h

/-- Elements are put into rows, from one on. -/
theorem rows_put {ρ : Rho} {sz cnt base i : Nat} {m : T (List AV)} {c c' : Array Value} {ls : List (List AV)} {vs : List Value} (hr : RowsRel ρ sz cnt m c base) (hl : ∀ l ∈ ls, l.length = sz) (hi : i + ls.length ≤ cnt) (hc : cnt ≤ lid)
    (hv : VRelL ρ (joinL ls) vs) (hin : ∀ j v, vs[j]? = some v → c'[base + i * sz + j]? = some v)
    (hout : ∀ j v, (j < base + i * sz ∨ base + (i + ls.length) * sz ≤ j) → c[j]? = some v → c'[j]? = some v) : RowsRel ρ sz cnt (putElems ls m i) c' base := by
  intro j l hj hg
  rw [putElems_get ls m i j (by omega) (by omega)] at hg
  split at hg
  · rename_i hij
    have hmem : l ∈ ls := List.mem_of_getElem? hg
    have hll := hl l hmem
    refine ⟨hll, fun b a hb => ?_⟩
    have hbs : b < sz := by
      have := (List.getElem?_eq_some_iff.1 hb).1
      omega
    have hja := joinL_get ls hl (j - i) b hbs
    rw [hg] at hja
    simp only [Option.bind_some, hb] at hja
    obtain ⟨v, h1, h2⟩ := hv.get hja
    refine ⟨v, ?_, h2⟩
    have := hin _ _ h1
    have e : base + i * sz + ((j - i) * sz + b) = base + (j * sz + b) := by
      have : i * sz + (j - i) * sz = j * sz := by rw [← Nat.add_mul]; congr 1; omega
      omega
    rw [e] at this
    exact this
  · rename_i hij
    obtain ⟨h1, h2⟩ := hr j l hj hg
    refine ⟨h1, fun b a hb => ?_⟩
    obtain ⟨v, h3, h4⟩ := h2 b a hb
    have hbs : b < sz := by
      have := (List.getElem?_eq_some_iff.1 hb).1
      omega
    refine ⟨v, hout _ _ ?_ h3, h4⟩
    rcases Nat.lt_or_ge j i with hlt | hge
    · left
      have : (j + 1) * sz ≤ i * sz := Nat.mul_le_mul_right _ hlt
      rw [Nat.add_mul] at this
      omega
    · right
      have : (i + ls.length) * sz ≤ j * sz := Nat.mul_le_mul_right _ (by omega)
      omega

theorem rows_nl {ρ : Rho} {sz cnt base : Nat} {c : Array Value} : RowsRel ρ sz cnt .nl c base := by
  intro i l _ h
  rw [T.get_nl] at h
  cases h

/-- Elements are laid in new rows. -/
theorem rows_new {ρ : Rho} {sz cnt : Nat} {c : Array Value} {ls : List (List AV)} {vs : List Value} (hl : ∀ l ∈ ls, l.length = sz) (hi : ls.length ≤ cnt) (hc : cnt ≤ lid)
    (hv : VRelL ρ (joinL ls) vs) (hin : ∀ (j : Nat) (v : Value), vs[j]? = some v → c[j]? = some v) : RowsRel ρ sz cnt (putElems ls .nl 0) c 0 :=
  by
  refine rows_put (c := #[]) (vs := vs) (i := 0) (base := 0) rows_nl hl (by omega) hc hv (fun j v hj => ?_) (fun j v _ hj => by simp at hj)
  have := hin j v hj
  simpa using this

/-! ### Memory that is made -/
/-- What an operation that changes memory brings about. -/
def WOk (P : Program) (K : CK) (W0 w : World) (ρ : Rho) (h : AHeap) (f : Operand → Value) (o : Oper) (v : AV) (h' : AHeap) : Prop :=
  ∃ nx w' ρ' v', (execOp f o).run P w = .ok nx w' ∧ (nx = .value v' ∨ (nx = .skip ∧ v' = undef)) ∧ VRel ρ' v v' ∧ Inv P K W0 ρ' h' w' ∧ Fr ρ h ρ' h'

def mAlloc (P : Program) (o : Op) (ty sz cnt : Nat) (z : List AV) : Bool :=
  match o with
  | .alloc t => Nat.beq t ty && !(Nat.beq sz 0) && Nat.beq (lenL z) sz && Nat.ble cnt lid &&
    (match P.info? t with
      | some i => (match i.zero with | some v => cAVL v.cells.toList (joinL (reptE z cnt)) | none => false)
      | none => false)
  | _ => false

section
variable {P : Program} {K : CK} {W0 w : World} {ρ : Rho} {h : AHeap} {m : Operand → Opd → Bool} {f : Operand → Value} {o : Oper} {v : AV} {sc : List AV} {env : T AV}

theorem alloc_run {ty sz cnt : Nat} {z : List AV} (hm : mAlloc P o.op ty sz cnt z = true) (w : World) :
    ∃ obj, (execOp f o).run P w = .ok (.value (.pointer (some ⟨w.heap.size, 0, none⟩))) (w.alloc obj) ∧
      ∀ ρ', ORel K ρ' ⟨w.heap.size, 0, cnt * sz, sz⟩ (w.alloc obj) (.cells sz ty 0 cnt (putElems (reptE z cnt) .nl 0)) := by
  unfold mAlloc at hm
  split at hm
  · rename_i t ho
    simp only [Bool.and_eq_true, beq_iff, ble_iff] at hm
    obtain ⟨⟨⟨⟨h1, h2⟩, h3⟩, h4⟩, h5⟩ := hm
    subst h1
    rw [lenL_eq] at h3
    split at h5
    · rename_i i hi
      split at h5
      · rename_i zv hz
        have hzl : ∀ l ∈ reptE z cnt, l.length = sz := fun l hl => by rw [reptE_mem hl]; exact h3
        have hjl := joinL_length (reptE z cnt) hzl
        rw [reptE_length] at hjl
        refine ⟨.cells zv.cells t (0, 0), ?_, fun ρ' => ?_⟩
        · simp [execOp, ho, Instr.alloc, zeroValue, typeInfo, hi, hz, newVar, newRow]
        · have hrel := cAVL_sound h5 ρ'
          have hlen := hrel.length
          simp only [Array.length_toList] at hlen
          refine ⟨?_, rfl, Nat.le_refl _, h4, Nat.zero_mod _, zv.cells, (0, 0), heap_alloc_new _ _, ?_, ?_, fun _ => Nat.zero_le _⟩
          · exact Nat.pos_of_ne_zero (by intro h0; rw [h0] at h2; simp at h2)
          · show zv.cells.size = 0 + cnt * sz
            omega
          · exact rows_new hzl (by rw [reptE_length]; exact Nat.le_refl _) h4 hrel (by simp)
      · cases h5
    · cases h5
  · cases hm

/-- Fresh memory, laid and made at once. -/
theorem WOk.fresh (k : Inv P K W0 ρ h w) {oo : AObj} {obj : Obj} {x : Value} {r : Ref} (hb : r.blk = w.heap.size) (hrun : (execOp f o).run P w = .ok (.value x) (w.alloc obj))
    (hO : ORel K (ρ.put h.next r) r (w.alloc obj) oo) {v : AV} (hv : VRel (ρ.put h.next r) v x) : WOk P K W0 w ρ h f o v (newBlock h oo).2 := by
  obtain ⟨k1, k2⟩ := k.new hb hO
  exact ⟨_, _, _, x, hrun, .inl rfl, hv, k1, k2⟩

theorem s_alloc (k : Inv P K W0 ρ h w) {ty sz cnt : Nat} {z : List AV} (hm : mAlloc P o.op ty sz cnt z = true) :
    WOk P K W0 w ρ h f o (.ptr (newBlock h (.cells sz ty 0 cnt (putElems (reptE z cnt) .nl 0))).1 0) (newBlock h (.cells sz ty 0 cnt (putElems (reptE z cnt) .nl 0))).2 := by
  obtain ⟨obj, h1, h2⟩ := alloc_run (K := K) (f := f) hm w
  refine WOk.fresh k (r := ⟨w.heap.size, 0, cnt * sz, sz⟩) rfl h1 (h2 _) ?_
  simp only [VRel]
  refine ⟨⟨w.heap.size, 0, cnt * sz, sz⟩, ?_, rfl⟩
  cases h
  exact Rho.put_self _ _ _

end
end
end Go.Absm

/- The abstract machine: memory that is made: boxes, rows, maps, iterators. -/
namespace Go.Absm
noncomputable section
set_option linter.unusedVariables false
set_option linter.unusedSectionVars false

theorem bf_v {b : Bool} {x : R} {v : AV} {h' : AHeap} (h : bf b x .no = .v v h') : b = true ∧ x = .v v h' := by
  cases b
  · cases h
  · exact ⟨rfl, h⟩
theorem rPtr_eq (p : Pos × AHeap) : rPtr p = .v (.ptr p.1 0) p.2 := by cases p; rfl
theorem rSl_eq (l c : Nat) (ex : Bool) (p : Pos × AHeap) : rSl l c ex p = .v (.sl p.1 0 l c ex) p.2 := by cases p; rfl
theorem newBlock_fst (h : AHeap) (o : AObj) : (newBlock h o).1 = h.next := by cases h; rfl

theorem zeros_rel {ρ : Rho} {z : List AV} {zero : Array Value} {sz : Nat} (hz : VRelL ρ z zero.toList) (hl : z.length = sz) (n : Nat) :
    VRelL ρ (joinL (reptE z n)) ((Array.range (n * sz)).map (zero[· % zero.size]!)).toList := by
  have hzs : zero.size = sz := by have := hz.length; simp at this; omega
  have hll : ∀ l ∈ reptE z n, l.length = sz := fun l hl' => by rw [reptE_mem hl']; exact hl
  refine VRelL.of_get ?_ ?_
  · rw [joinL_length _ hll, reptE_length]; simp
  · intro i a v hi hv
    have hsz : 0 < sz := by
      refine Nat.pos_of_ne_zero fun h0 => ?_
      have := (List.getElem?_eq_some_iff.1 hi).1
      rw [joinL_length _ hll, h0] at this
      simp at this
    have hi' : i < n * sz := by
      have := (List.getElem?_eq_some_iff.1 hi).1
      rw [joinL_length _ hll, reptE_length] at this
      exact this
    have hlt : i % sz < sz := Nat.mod_lt _ hsz
    have e : i / sz * sz + i % sz = i := by rw [Nat.mul_comm]; exact Nat.div_add_mod i sz
    have h1 := joinL_get (reptE z n) hll (i / sz) (i % sz) hlt
    rw [e, hi] at h1
    have h2 : ∀ k, k < n → (reptE z n)[k]? = some z := by
      intro k hk
      have : k < (reptE z n).length := by rw [reptE_length]; exact hk
      rw [List.getElem?_eq_getElem this]
      rw [reptE_mem (List.getElem_mem this)]
    rw [h2 _ (Nat.div_lt_of_lt_mul (by rw [Nat.mul_comm]; exact hi'))] at h1
    simp only [Option.bind_some] at h1
    obtain ⟨u, h3, h4⟩ := hz.get h1.symm
    have h5 : zero[i % sz]? = some u := by simpa using h3
    simp [hi'] at hv
    rw [hzs] at hv
    rw [getElem!_def, h5] at hv
    exact hv ▸ h4

def mBox (m : Operand → Opd → Bool) (o : Op) (ty n : Nat) (X : Opd) : Bool :=
  match o with
  | .box t x => Nat.beq t ty && !(Nat.beq n 0) && m x X
  | _ => false
def mMkmap (P : Program) (o : Op) : Bool :=
  match o with
  | .makeMap t r => (match r with
    | none => true
    | some (.const (.int _ _)) => (match P.underlying t with | some (.map _ _) => true | _ => false)
    | _ => false)
  | _ => false
def mRange (P : Program) (m : Operand → Opd → Bool) (o : Op) (X : Opd) : Bool :=
  match o with
  | .range t x => (match P.underlying t with | some (.map _ _) => true | _ => false) && m x X
  | _ => false
def mMkslice (P : Program) (m : Operand → Opd → Bool) (o : Op) (sz ty bytes : Nat) (z : List AV) (L C : Opd) : Bool :=
  match o with
  | .makeSlice t l c => (match P.underlying t with
    | some (.slice e) => Nat.beq e ty && !(Nat.beq sz 0) && Nat.beq (lenL z) sz && (match P.info? e with
      | some i => Nat.beq i.size sz && Nat.beq i.bytes bytes && (match i.zero with | some v => cAVL v.cells.toList z | none => false)
      | none => false)
    | _ => false) && m l L && m c C
  | _ => false

section
variable {P : Program} {K : CK} {W0 w : World} {ρ : Rho} {h h' : AHeap} {m : Operand → Opd → Bool} {e : Opd → AV} {f : Operand → Value} {o : Oper} {v : AV}

theorem wrap_nat {n : Nat} (hn : n < 9223372036854775808) : IntKind.i64.wrap (n : Int) = n := by
  rw [← wrapF_eq]
  show wrapF .i64 (Int.ofNat n) = _
  unfold wrapF
  have : Nat.blt n (lim .i64) = true := blt_iff.2 hn
  simp only [this, bf_true]
  rfl

theorem s_box (k : Inv P K W0 ρ h w) (H : ∀ x X, m x X = true → VRel ρ (e X) (f x)) {ty n : Nat} {X : Opd} (hm : mBox m o.op ty n X = true) (hv : wBox h ty n (e X).cells = .v v h') : WOk P K W0 w ρ h f o v h' := by
  unfold mBox at hm
  split at hm
  · rename_i t x ho
    simp only [Bool.and_eq_true, beq_iff] at hm
    obtain ⟨⟨h1, h2⟩, h3⟩ := hm
    subst h1
    have hx := H _ _ h3
    unfold wBox at hv
    obtain ⟨hc, hv⟩ := bf_v hv
    simp only [Bool.and_eq_true, beq_iff] at hc
    obtain ⟨c1, c2⟩ := hc
    rw [lenL_eq] at c1
    rw [rPtr_eq] at hv
    injection hv with e1 e2
    subst e1 e2
    obtain ⟨hr, h1c⟩ := cells_rel hx c2
    have hlen := hr.length
    simp only [Array.length_toList] at hlen
    refine WOk.fresh k (r := ⟨w.heap.size, 0, n, n⟩) (x := .pointer (some ⟨w.heap.size, 0, none⟩)) (obj := .cells (f x).cells t (0, 0)) rfl ?_ ?_ ?_
    · simp [execOp, ho, Instr.box, newVar, newRow]
    · have hr' := hr.mono (Rho.le_put (k.fresh h.next (Nat.le_refl _)).1 ⟨w.heap.size, 0, n, n⟩)
      refine ⟨Nat.pos_of_ne_zero (by intro h0; rw [h0] at h2; simp at h2), rfl, by simp, by decide, Nat.zero_mod _, (f x).cells, (0, 0), heap_alloc_new _ _, ?_, ?_, fun _ => Nat.zero_le _⟩
      · show (f x).cells.size = 0 + n
        omega
      · have := rows_new (ρ := ρ.put h.next ⟨w.heap.size, 0, n, n⟩) (sz := n) (cnt := 1) (c := (f x).cells) (ls := [(e X).cells]) (vs := (f x).cells.toList) (by simp [c1]) (by simp) (by decide) (by simpa [joinL] using hr') (by simp)
        exact this
    · simp only [VRel]
      exact ⟨⟨w.heap.size, 0, n, n⟩, by rw [newBlock_fst]; exact Rho.put_self _ _ _, rfl⟩
  · cases hm

theorem s_mkmap {tmps : Array Value} (k : Inv P K W0 ρ h w) (hm : mMkmap P o.op = true) (hv : wMkmap h = .v v h') : WOk P K W0 w ρ h (evalIn tmps) o v h' := by
  unfold wMkmap at hv
  have hv : R.v (.map (newBlock h (.map [] 0)).1) (newBlock h (.map [] 0)).2 = .v v h' := hv
  injection hv with e1 e2
  subst e1 e2
  unfold mMkmap at hm
  split at hm
  · rename_i t r ho
    have hO : ORel K (ρ.put h.next ⟨w.heap.size, 0, 0, 0⟩) ⟨w.heap.size, 0, 0, 0⟩ (w.alloc (.map #[] 0)) (.map [] 0) := ⟨#[], heap_alloc_new _ _, by simp [ERel]⟩
    refine WOk.fresh k (r := ⟨w.heap.size, 0, 0, 0⟩) (x := .map (some w.heap.size)) (obj := .map #[] 0) rfl ?_ hO (by simp only [VRel]; exact ⟨⟨w.heap.size, 0, 0, 0⟩, by rw [newBlock_fst]; exact Rho.put_self _ _ _, rfl⟩)
    split at hm
    · simp [execOp, ho, Instr.makeMap]
    · split at hm
      · rename_i hu
        simp [execOp, ho, Instr.makeMap, evalIn, run_underlying hu, asInt, asIntOf]
      · cases hm
    · cases hm
  · cases hm

theorem s_range (k : Inv P K W0 ρ h w) (H : ∀ x X, m x X = true → VRel ρ (e X) (f x)) {X : Opd} (hm : mRange P m o.op X = true) (hv : wRange h (e X) = .v v h') : WOk P K W0 w ρ h f o v h' := by
  unfold mRange at hm
  split at hm
  · rename_i t x ho
    simp only [Bool.and_eq_true] at hm
    obtain ⟨h1, h2⟩ := hm
    have hx := H _ _ h2
    split at h1
    · rename_i hu
      unfold wRange at hv
      split at hv
      · rename_i he
        rw [he] at hx
        simp only [VRel] at hx
        rw [rPtr_eq] at hv
        injection hv with e1 e2
        subst e1 e2
        have hO : ORel K (ρ.put h.next ⟨w.heap.size, 0, 0, 0⟩) ⟨w.heap.size, 0, 0, 0⟩ (w.alloc (.mapIter none 0 #[] 0)) (.iter none 0 [] 0) := ⟨rfl, none, heap_alloc_new _ _, rfl⟩
        refine WOk.fresh k (r := ⟨w.heap.size, 0, 0, 0⟩) (x := .pointer (some ⟨w.heap.size, 0, none⟩)) (obj := .mapIter none 0 #[] 0) rfl ?_ hO (by simp only [VRel]; exact ⟨⟨w.heap.size, 0, 0, 0⟩, by rw [newBlock_fst]; exact Rho.put_self _ _ _, rfl⟩)
        simp [execOp, ho, hx, Instr.range, run_underlying hu]
      · rename_i mm he
        rw [he] at hx
        simp only [VRel] at hx
        obtain ⟨r, hr, hx⟩ := hx
        rw [getObj_eq] at hv
        split at hv
        · rename_i es clock hg
          obtain ⟨es', hw, hes⟩ := k.obj _ _ _ hg hr
          rw [rPtr_eq] at hv
          injection hv with e1 e2
          subst e1 e2
          have hO : ORel K (ρ.put h.next ⟨w.heap.size, 0, 0, 0⟩) ⟨w.heap.size, 0, 0, 0⟩ (w.alloc (.mapIter (some r.blk) clock #[] clock)) (.iter (some mm) clock [] clock) :=
            ⟨rfl, some r.blk, heap_alloc_new _ _, r, Rho.le_put (k.fresh h.next (Nat.le_refl _)).1 _ _ _ hr, rfl⟩
          refine WOk.fresh k (r := ⟨w.heap.size, 0, 0, 0⟩) (x := .pointer (some ⟨w.heap.size, 0, none⟩)) (obj := .mapIter (some r.blk) clock #[] clock) rfl ?_ hO (by simp only [VRel]; exact ⟨⟨w.heap.size, 0, 0, 0⟩, by rw [newBlock_fst]; exact Rho.put_self _ _ _, rfl⟩)
          simp [execOp, ho, hx, Instr.range, run_underlying hu, run_getObj_map hw]
        · cases hv
      · cases hv
    · cases h1
  · cases hm

theorem s_mkslice (k : Inv P K W0 ρ h w) (H : ∀ x X, m x X = true → VRel ρ (e X) (f x)) {sz ty bytes : Nat} {z : List AV} {L C : Opd} (hm : mMkslice P m o.op sz ty bytes z L C = true)
    (hv : wMkslice h sz ty bytes z (natOf (e L)) (natOf (e C)) = .v v h') : WOk P K W0 w ρ h f o v h' := by
  unfold mMkslice at hm
  split at hm
  · rename_i t l c ho
    simp only [Bool.and_eq_true] at hm
    obtain ⟨⟨h1, h2⟩, h3⟩ := hm
    have hl := H _ _ h2
    have hc := H _ _ h3
    split at h1
    · rename_i el hu
      simp only [Bool.and_eq_true, beq_iff] at h1
      obtain ⟨⟨⟨g1, g2⟩, g3⟩, g4⟩ := h1
      subst g1
      rw [lenL_eq] at g3
      split at g4
      · rename_i i hi
        simp only [Bool.and_eq_true, beq_iff] at g4
        obtain ⟨⟨i1, i2⟩, i3⟩ := g4
        split at i3
        · rename_i zv hz
          unfold wMkslice at hv
          split at hv
          · rename_i ll cc hnl hnc
            obtain ⟨kl, hl⟩ := natOf_int hnl hl
            obtain ⟨kc, hc⟩ := natOf_int hnc hc
            obtain ⟨hb, hv⟩ := bf_v hv
            simp only [Bool.and_eq_true, ble_iff, blt_iff] at hb
            obtain ⟨⟨b1, b2⟩, b3⟩ := hb
            have b2 : cc * bytes ≤ big := b2
            rw [rSl_eq] at hv
            injection hv with e1 e2
            subst e1 e2
            simp only [big] at b2 b3
            have w1 : IntKind.i64.wrap (ll : Int) = ll := wrap_nat (by omega)
            have w2 : IntKind.i64.wrap (cc : Int) = cc := wrap_nat (by omega)
            have hsz : 0 < sz := Nat.pos_of_ne_zero (by intro h0; rw [h0] at g2; simp at g2)
            have hzr := cAVL_sound i3 (ρ.put h.next ⟨w.heap.size, 0, cc * sz, sz⟩)
            have hrow := zeros_rel hzr g3 cc
            have hO : ORel K (ρ.put h.next ⟨w.heap.size, 0, cc * sz, sz⟩) ⟨w.heap.size, 0, cc * sz, sz⟩ (w.alloc (.cells ((Array.range (cc * sz)).map (zv.cells[· % zv.cells.size]!)) el (0, 0))) (.cells sz el 0 cc (putElems (reptE z cc) .nl 0)) := by
              refine ⟨hsz, rfl, Nat.le_refl _, by simp only [lid]; omega, Nat.zero_mod _, _, (0, 0), heap_alloc_new _ _, by simp, ?_, fun _ => Nat.zero_le _⟩
              exact rows_new (fun l hl' => by rw [reptE_mem hl']; exact g3) (by rw [reptE_length]; exact Nat.le_refl _) (by simp only [lid]; omega) hrow (by intro j v hj; rw [← Array.getElem?_toList]; exact hj)
            refine WOk.fresh k (r := ⟨w.heap.size, 0, cc * sz, sz⟩) (x := .slice (some ⟨w.heap.size, 0, none⟩) ll cc) rfl ?_ hO ?_
            · have t1 : ¬ ((cc : Int) < 0) := by omega
              have t2 : ¬ ((ll : Int) < 0) := by omega
              have t3 : ¬ ((ll : Int) > cc) := by omega
              have t4 : ¬ (281474976710656 < (bytes : Int) * cc) := by
                have b2' : ((cc * bytes : Nat) : Int) ≤ (1099511627776 : Nat) := Int.ofNat_le.2 b2
                have e : ((cc * bytes : Nat) : Int) = (bytes : Int) * cc := by rw [Int.natCast_mul, Int.mul_comm]
                rw [e] at b2'
                omega
              have hr0 : Array.range 0 = #[] := rfl
              have hmk : (Instr.makeSlice t (.int kl ll) (.int kc cc)).run P w = .ok (.slice (some ⟨w.heap.size, 0, none⟩) ll cc) (w.alloc (.cells ((Array.range (cc * sz)).map (zv.cells[· % zv.cells.size]!)) el (0, 0))) := by
                by_cases hc0 : cc * sz = 0
                · simp [Instr.makeSlice, run_underlying hu, asInt, asIntOf, typeInfo, hi, i1, i2, w1, w2, t1, t2, t3, t4, sizeOf, hc0, newRow, hr0]
                · simp [Instr.makeSlice, run_underlying hu, asInt, asIntOf, typeInfo, hi, i1, i2, w1, w2, t1, t2, t3, t4, sizeOf, hc0, newRow, zeroValue, hz]
              simp [execOp, ho, hl, hc, hmk]
            · simp only [VRel]
              exact ⟨⟨w.heap.size, 0, cc * sz, sz⟩, _, _, by rw [newBlock_fst]; exact Rho.put_self _ _ _, rfl, fun _ => rfl, Nat.le_refl _, b1, fun _ => rfl, by simp⟩
          · cases hv
        · cases i3
      · cases g4
    · cases h1
  · cases hm

end
end
end Go.Absm

/- The abstract machine: memory that is written: stores. -/
namespace Go.Absm
noncomputable section
set_option linter.unusedVariables false
set_option linter.unusedSectionVars false

/-- Cells of one block are written: what that leaves. -/
structure Wrote (w w' : World) (b o : Nat) (vs : List Value) (c c' : Array Value) (ty : TypeId) (fr : Nat × Nat) : Prop where
  here : w'.heap[b]? = some (.cells c' ty fr)
  size : c'.size = c.size
  cell : ∀ j, c'[j]? = if o ≤ j ∧ j < o + vs.length ∧ j < c.size then vs[j - o]? else c[j]?
  same : ∀ B, B ≠ b → w'.heap[B]? = w.heap[B]?
  hsize : w'.heap.size = w.heap.size
  os : w'.os = w.os
  tape : w'.tape = w.tape
  output : w'.output = w.output

theorem setCells_wrote (b : Nat) (ty : TypeId) (fr : Nat × Nat) : ∀ (vs : List Value) (o : Nat) (w : World) (c : Array Value), w.heap[b]? = some (.cells c ty fr) → ∃ c', Wrote w (w.setCells b o vs) b o vs c c' ty fr
  | [], o, w, c, h => ⟨c, h, rfl, fun j => by rw [if_neg]; simp only [List.length_nil]; omega, fun _ _ => rfl, rfl, rfl, rfl, rfl⟩
  | v :: vs, o, w, c, h => by
    have h1 : (w.setCell ⟨b, o, none⟩ v).heap[b]? = some (.cells (c.setIfInBounds o v) ty fr) := by
      simp [World.setCell, Array.getElem?_modify, h]
    obtain ⟨c', k⟩ := setCells_wrote b ty fr vs (o + 1) (w.setCell ⟨b, o, none⟩ v) _ h1
    refine ⟨c', k.here, by rw [k.size]; simp, fun j => ?_, fun B hB => ?_, ?_, k.os, k.tape, k.output⟩
    · rw [k.cell j]
      simp only [Array.size_setIfInBounds, List.length_cons, Array.getElem?_setIfInBounds]
      by_cases h2 : o + 1 ≤ j ∧ j < o + 1 + vs.length ∧ j < c.size
      · rw [if_pos h2, if_pos (by omega)]
        have : j - o = (j - (o + 1)) + 1 := by omega
        rw [this, List.getElem?_cons_succ]
      · rw [if_neg h2]
        by_cases h3 : o = j
        · subst h3
          by_cases h4 : o < c.size
          · simp [h4]
          · simp [h4]
        · rw [if_neg h3, if_neg (by omega)]
    · rw [World.setCells, k.same B hB]
      simp [World.setCell, Array.getElem?_modify, Ne.symm hB]
    · rw [World.setCells, k.hsize]; simp [World.setCell]

section
variable {P : Program} {K : CK} {W0 w : World} {ρ : Rho} {h h' : AHeap} {m : Operand → Opd → Bool} {e : Opd → AV} {f : Operand → Value} {o : Oper} {v : AV}

/-- Cells of a block stand, and are not frozen. -/
theorem there_of {r : Ref} {c : Array Value} {ty : TypeId} {fr : Nat × Nat} {off n fz : Nat} (hw : w.heap[r.blk]? = some (.cells c ty fr)) (hfr : fr.2 ≤ r.base + fz) (hfz : fz ≤ off) (hn : r.base + off + n ≤ c.size) :
    (∀ j, j < n → (w.cell? ⟨r.blk, r.base + off + j, none⟩).isSome = true) ∧ (∀ j, j < n → w.frozen? ⟨r.blk, r.base + off + j, none⟩ = false) := by
  constructor
  · intro j hj
    have : r.base + off + j < c.size := by omega
    simp [World.cell?, hw, this]
  · intro j hj
    have : ¬ (r.base + off + j < fr.2) := by omega
    simp [World.frozen?, hw, this]

/-- Rows behind a write of cells in one row. -/
theorem rows_store {sz cnt base off : Nat} {mm mm' : T (List AV)} {c c' : Array Value} {l : List AV} {vs : List Value} (hp : 0 < sz) (hc : cnt ≤ lid) (hr : RowsRel ρ sz cnt mm c base) (hput : putRow mm sz off l = some mm') (hi : off / sz < cnt)
    (hv : VRelL ρ l vs) (hin : ∀ j v, vs[j]? = some v → c'[base + off + j]? = some v) (hout : ∀ j v, (j < base + off ∨ base + off + vs.length ≤ j) → c[j]? = some v → c'[j]? = some v) : RowsRel ρ sz cnt mm' c' base := by
  have hdm : off / sz * sz + off % sz = off := by rw [Nat.mul_comm]; exact Nat.div_add_mod off sz
  have hll := hv.length
  unfold putRow at hput
  have hlt : off / sz < lid := by omega
  cases hg : mm.get (pos (Nat.div off sz)) with
  | some row =>
    rw [hg] at hput
    simp only at hput
    split at hput
    · rename_i row' hpn
      injection hput with hput
      subst hput
      rw [putN_eq] at hpn
      obtain ⟨p1, p2⟩ := hpn
      have p1 : off % sz + l.length ≤ row.length := p1
      have p2 : row' = row.take (off % sz) ++ l ++ row.drop (off % sz + l.length) := p2
      obtain ⟨q1, q2⟩ := hr _ row hi hg
      intro i x hix hx
      rw [T.get_set] at hx
      split at hx
      · rename_i he
        have hie : i = off / sz := pos_inj (by omega) hlt he
        subst hie
        injection hx with hx
        subst hx
        refine ⟨by rw [p2]; simp; omega, fun j a hj => ?_⟩
        rw [p2, List.append_assoc, List.getElem?_append] at hj
        split at hj
        · rename_i hj1
          simp only [List.length_take] at hj1
          rw [List.getElem?_take, if_pos (by omega)] at hj
          obtain ⟨u, h1, h2⟩ := q2 j a hj
          exact ⟨u, hout _ _ (by left; omega) h1, h2⟩
        · rename_i hj1
          simp only [List.length_take] at hj1 hj
          rw [List.getElem?_append] at hj
          split at hj
          · rename_i hj2
            obtain ⟨u, h1, h2⟩ := hv.get hj
            have := hin _ _ h1
            have e : base + off + (j - min (off % sz) row.length) = base + (off / sz * sz + j) := by omega
            rw [e] at this
            exact ⟨u, this, h2⟩
          · rename_i hj2
            rw [List.getElem?_drop] at hj
            have e : off % sz + l.length + (j - min (off % sz) row.length - l.length) = j := by omega
            rw [e] at hj
            obtain ⟨u, h1, h2⟩ := q2 j a hj
            exact ⟨u, hout _ _ (by right; omega) h1, h2⟩
      · rename_i hne
        obtain ⟨r1, r2⟩ := hr i x hix hx
        refine ⟨r1, fun j a hj => ?_⟩
        obtain ⟨u, h1, h2⟩ := r2 j a hj
        have hjs : j < sz := by have := (List.getElem?_eq_some_iff.1 hj).1; omega
        have hni : i ≠ off / sz := fun he => hne (by rw [he]; rfl)
        refine ⟨u, hout _ _ ?_ h1, h2⟩
        rcases Nat.lt_or_gt_of_ne hni with hl | hg'
        · left
          have : (i + 1) * sz ≤ off / sz * sz := Nat.mul_le_mul_right _ hl
          rw [Nat.add_mul] at this
          omega
        · right
          have : (off / sz + 1) * sz ≤ i * sz := Nat.mul_le_mul_right _ hg'
          rw [Nat.add_mul] at this
          omega
    · cases hput
  | none =>
    rw [hg] at hput
    obtain ⟨hb, hput⟩ := bf_some (show bf (Nat.beq (Nat.mod off sz) 0 && Nat.beq (lenL l) sz) (some (mm.set (pos (Nat.div off sz)) l)) none = some mm' from hput)
    simp only [Bool.and_eq_true, beq_iff] at hb
    obtain ⟨b1, b2⟩ := hb
    have b1 : off % sz = 0 := b1
    rw [lenL_eq] at b2
    injection hput with hput
    subst hput
    have hone : putElems [l] mm (off / sz) = mm.set (pos (Nat.div off sz)) l := rfl
    rw [← hone]
    refine rows_put (c := c) (vs := vs) hr (by simp [b2]) (by simp only [List.length_singleton]; omega) hc (by simpa [joinL] using hv) (fun j v hj => ?_) (fun j v hj hcj => ?_)
    · have := hin j v hj
      have e : base + off / sz * sz + j = base + off + j := by omega
      rw [e]; exact this
    · refine hout j v ?_ hcj
      simp only [List.length_singleton, Nat.add_mul, Nat.one_mul] at hj
      omega

def mStore (P : Program) (m : Operand → Opd → Bool) (o : Op) (n : Nat) (A X : Opd) : Bool :=
  match o with
  | .store t a x => szIs P t n && m a A && m x X
  | _ => false

theorem rOf_v {x : Option AHeap} (hx : rOf x = .v v h') : x = some h' ∧ v = .tup [] := by
  cases x with
  | none => cases hx
  | some y => injection hx with h1 h2; exact ⟨by rw [h2], h1.symm⟩

theorem s_store (k : Inv P K W0 ρ h w) (H : ∀ x X, m x X = true → VRel ρ (e X) (f x)) {n : Nat} {A X : Opd} (hm : mStore P m o.op n A X = true) (hv : wStore h n (e A) (e X).cells = .v v h') : WOk P K W0 w ρ h f o v h' := by
  unfold mStore at hm
  split at hm
  · rename_i t a x ho
    simp only [Bool.and_eq_true] at hm
    obtain ⟨⟨h1, h2⟩, h3⟩ := hm
    have ha := H _ _ h2
    have hx := H _ _ h3
    unfold szIs at h1
    split at h1
    · rename_i i hi
      have h1 : i.size = n := beq_iff.1 h1
      unfold wStore at hv
      split at hv
      · rename_i id off he
        rw [he] at ha
        simp only [VRel] at ha
        obtain ⟨r, hr, ha⟩ := ha
        replace hv := bf_v hv
        obtain ⟨hc, hv⟩ := hv
        simp only [Bool.and_eq_true, beq_iff] at hc
        obtain ⟨c1, c2⟩ := hc
        rw [lenL_eq] at c1
        replace hv := rOf_v hv
        obtain ⟨hv, hvv⟩ := hv
        subst hvv
        unfold storeCells at hv
        rw [getObj_eq] at hv
        split at hv
        · rename_i sz ty fz cnt mm hg
          replace hv := bf_some hv
          obtain ⟨hb, hv⟩ := hv
          simp only [Bool.and_eq_true, blt_iff, ble_iff] at hb
          obtain ⟨⟨b1, b2⟩, b3⟩ := hb
          split at hv
          · rename_i mm' hput
            injection hv with hv
            subst hv
            have kr := k.obj _ _ _ hg hr
            obtain ⟨c, fr, g1, g2, g3, g4⟩ := kr.ex
            obtain ⟨hcr, hone⟩ := cells_rel hx c2
            have hlen := hcr.length
            simp only [Array.length_toList] at hlen
            have hfit : off % sz + n ≤ sz := by
              unfold putRow at hput
              split at hput
              · rename_i row hrow
                split at hput
                · rename_i row' hpn
                  rw [putN_eq] at hpn
                  have := (g3 _ row b1 hrow).1
                  have hp1 : off % sz + (e X).cells.length ≤ row.length := hpn.1
                  omega
                · cases hput
              · obtain ⟨hb', _⟩ := bf_some hput
                simp only [Bool.and_eq_true, beq_iff] at hb'
                have e1 : off % sz = 0 := hb'.1
                rw [lenL_eq] at hb'
                omega
            have hend : off + n ≤ cnt * sz := by
              have h5 : (off / sz + 1) * sz ≤ cnt * sz := Nat.mul_le_mul_right _ b1
              have h6 : off / sz * sz + off % sz = off := by rw [Nat.mul_comm]; exact Nat.div_add_mod off sz
              rw [Nat.add_mul] at h5
              omega
            have hcap := kr.cap
            obtain ⟨t1, t2⟩ := there_of (w := w) (off := off) (n := n) g1 (g4 b3) b2 (by omega)
            obtain ⟨c', wr⟩ := setCells_wrote r.blk ty fr (f x).cells.toList (r.base + off) w c g1
            have hrun : (execOp f o).run P w = .ok .skip (w.setCells r.blk (r.base + off) (f x).cells.toList) := by
              have hst := run_storeCells_cells (P := P) r.blk (r.base + off) (f x).cells.toList 0 w (by simpa [hlen, c1] using t1) (by simpa [hlen, c1] using t2) hone
              have hsz : (f x).cells.size = i.size := by omega
              simp only [Nat.add_zero] at hst
              simp [execOp, ho, ha, Instr.storeAt, Instr.sureAddr, storeVar, sizeOf, typeInfo, hi, hsz, hst]
            have hvl : (f x).cells.toList.length = n := by simp; omega
            have hO : ORel K ρ r (w.setCells r.blk (r.base + off) (f x).cells.toList) (.cells sz ty fz cnt mm') := by
              refine ⟨kr.pos, kr.ref, kr.cap, kr.lid, kr.mod, c', fr, wr.here, by rw [wr.size]; exact g2, ?_, g4⟩
              refine rows_store kr.pos kr.lid g3 hput b1 hcr (fun j u hj => ?_) (fun j u hj hcj => ?_)
              · rw [wr.cell]
                have hjn := (List.getElem?_eq_some_iff.1 hj).1
                rw [if_pos (by omega)]
                have : r.base + off + j - (r.base + off) = j := by omega
                rw [this]; exact hj
              · rw [wr.cell, if_neg (by omega)]
                exact hcj
            obtain ⟨k1, k2⟩ := k.wrote hg hr (by simp [AObj.writes, blt_iff.2 b3]) wr.same wr.hsize wr.os wr.tape wr.output rfl hO
            exact ⟨_, _, ρ, undef, hrun, .inr ⟨rfl, rfl⟩, by simp only [VRel]; exact ⟨#[], rfl, by simp⟩, k1, k2⟩
          · cases hv
        · cases hv
      · cases hv
    · cases h1
  · cases hm

end
end
end Go.Absm

/- The abstract machine: maps are written, iterators step. -/
namespace Go.Absm
noncomputable section
set_option linter.unusedVariables false
set_option linter.unusedSectionVars false

def mMupd (P : Program) (m : Operand → Opd → Bool) (o : Op) (kt : KT) (M Kk X : Opd) : Bool :=
  let go (t : TypeId) (a b c : Operand) : Bool := m a M && m b Kk && m c X && (match P.underlying t with | some (.map kty _) => ktM P kty kt | _ => false)
  match o with
  | .mapUpdate t a b c => go t a b c
  | .insert t a b c => go t a b c
  | _ => false
def mNext (m : Operand → Opd → Bool) (o : Op) (X : Opd) : Bool :=
  match o with
  | .next x false => m x X
  | _ => false

section
variable {P : Program} {K : CK} {W0 w : World} {ρ : Rho} {h h' : AHeap} {m : Operand → Opd → Bool} {e : Opd → AV} {f : Operand → Value} {o : Oper} {v : AV}

theorem heap_set_same (w : World) (r : Nat) (o : Obj) (h : r < w.heap.size) : ({ w with heap := w.heap.setIfInBounds r o } : World).heap[r]? = some o := by
  simp [h]
theorem heap_set_ne (w : World) (r B : Nat) (o : Obj) (h : B ≠ r) : ({ w with heap := w.heap.setIfInBounds r o } : World).heap[B]? = w.heap[B]? := by
  simp [Ne.symm h]

theorem run_setObj {r : Nat} {o o' : Obj} (h : w.heap[r]? = some o) (ho : ∀ c t fr, o ≠ .cells c t fr) : (Go.setObj r o').run P w = .ok () { w with heap := w.heap.setIfInBounds r o' } := by
  cases o <;> first | (exact absurd rfl (ho _ _ _)) | simp [Go.setObj, Sem.run, h]

theorem ERel.append {a b : List (AV × AV × Nat)} {l l2 : List MapEntry} (h1 : ERel ρ a l) (h2 : ERel ρ b l2) : ERel ρ (a ++ b) (l ++ l2) := by
  induction a generalizing l with
  | nil => simp only [ERel] at h1; subst h1; exact h2
  | cons x a ih =>
    obtain ⟨q, vv, bb⟩ := x
    obtain ⟨en, l', rfl, g1, g2, g3, g4⟩ := h1
    exact ⟨en, l' ++ l2, rfl, g1, g2, g3, ih g4⟩

theorem findE_lt {kt : KT} {k : AV} : ∀ {es : List (AV × AV × Nat)} {i j : Nat} {v : AV}, findE kt k es i = some (some (j, v)) → i ≤ j ∧ j - i < es.length ∧ ∃ q v' b, es[j - i]? = some (q, v', b) ∧ eqKT kt k q = some true
  | [], i, j, v, h => by simp [findE] at h
  | (q, vv, b) :: es, i, j, v, h => by
    simp only [findE] at h
    split at h
    · rename_i hq
      injection h with h
      injection h with h
      simp only [Prod.mk.injEq] at h
      obtain ⟨rfl, rfl⟩ := h
      exact ⟨Nat.le_refl _, by simp, q, vv, b, by simp, hq⟩
    · obtain ⟨h1, h2, q', v', b', h3, h4⟩ := findE_lt h
      have h1 : i + 1 ≤ j := h1
      have e1 : j - i = (j - (i + 1)) + 1 := by omega
      refine ⟨by omega, ?_, q', v', b', ?_, h4⟩
      · rw [e1]
        have h2 : j - (i + 1) < es.length := h2
        simp only [List.length_cons]
        omega
      · rw [e1, List.getElem?_cons_succ]
        exact h3
    · cases h

theorem setE_rel {k x : AV} {kv xv : Value} (hk : VRel ρ k kv) (hx : VRel ρ x xv) : ∀ {es : List (AV × AV × Nat)} {l : List MapEntry} {i : Nat}, ERel ρ es l → i < es.length →
    ERel ρ (setE k x es i) (l.modify i fun e => { e with key := kv, val := xv })
  | [], l, i, h, hi => by simp at hi
  | (q, vv, b) :: es, l, 0, ⟨en, l', hl, g1, g2, g3, g4⟩, _ => by
    subst hl
    simp only [setE]
    exact ⟨{ en with key := kv, val := xv }, l', by simp, hk, hx, g3, g4⟩
  | (q, vv, b) :: es, l, i + 1, ⟨en, l', hl, g1, g2, g3, g4⟩, hi => by
    subst hl
    simp only [setE]
    exact ⟨en, l'.modify i fun e => { e with key := kv, val := xv }, by simp, g1, g2, g3, setE_rel hk hx g4 (by simp at hi; omega)⟩

theorem eqK_eq {k : Nat} {a b : AV} {x y : Value} (h : eqK k a b = some true) (hx : VRel ρ a x) (hy : VRel ρ b y) : x = y ∧ ∀ n, Instr.sameBits n x x = true := by
  unfold eqK at h
  split at h <;> (try (cases h; done)) <;> replace h := bf_some h <;> obtain ⟨hc, h⟩ := h <;> injection h with h <;> simp only [VRel] at hx hy
  · rw [beqB_iff.1 h] at hx
    subst hx hy
    exact ⟨rfl, fun n => by cases n <;> simp [Instr.sameBits]⟩
  · simp only [Bool.and_eq_true] at hc
    rw [intEq_iff.1 h, ik_iff.1 hc.2] at hx
    subst hx hy
    exact ⟨rfl, fun n => by cases n <;> simp [Instr.sameBits]⟩
  · simp only [Bool.and_eq_true, beq_iff] at h
    rw [h.1, h.2] at hx
    obtain ⟨rfl, _⟩ := hx
    obtain ⟨rfl, _⟩ := hy
    exact ⟨rfl, fun n => by cases n <;> simp [Instr.sameBits, beq_toListBytes]⟩

theorem eqKs_eq : ∀ {ks : List Nat} {l m' : List AV} {xs ys : List Value}, eqKs ks l m' = some true → VRelL ρ l xs → VRelL ρ m' ys → xs = ys ∧ ∀ n, ∀ x ∈ xs, Instr.sameBits n x x = true
  | [], [], [], xs, ys, _, hx, hy => by
    simp at hx hy
    subst hx hy
    exact ⟨rfl, by simp⟩
  | k :: ks, a :: l, b :: m', xs, ys, h, hx, hy => by
    obtain ⟨x, xs', rfl, h1, h2⟩ := VRelL.cons.1 hx
    obtain ⟨y, ys', rfl, h3, h4⟩ := VRelL.cons.1 hy
    simp only [eqKs] at h
    split at h
    · rename_i r s hr hs
      injection h with h
      simp only [Bool.and_eq_true] at h
      rw [h.1] at hr
      rw [h.2] at hs
      obtain ⟨e1, e2⟩ := eqK_eq hr h1 h3
      obtain ⟨e3, e4⟩ := eqKs_eq hs h2 h4
      refine ⟨by rw [e1, e3], fun n x hx => ?_⟩
      rcases List.mem_cons.1 hx with rfl | hx
      · exact e2 n
      · exact e4 n x hx
    · cases h
  | [], _ :: _, _, _, _, h, _, _ => by simp [eqKs] at h
  | [], [], _ :: _, _, _, h, _, _ => by simp [eqKs] at h
  | _ :: _, [], _, _, _, h, _, _ => by simp [eqKs] at h
  | _ :: _, _ :: _, [], _, _, h, _, _ => by simp [eqKs] at h

theorem eqKT_eq {kt : KT} {a b : AV} {x y : Value} (h : eqKT kt a b = some true) (hx : VRel ρ a x) (hy : VRel ρ b y) : x = y ∧ ∀ n, Instr.sameBits (n + 1) x x = true := by
  unfold eqKT at h
  split at h
  · obtain ⟨h1, h2⟩ := eqK_eq h hx hy
    exact ⟨h1, fun n => h2 _⟩
  · split at h
    · simp only [VRel] at hx hy
      obtain ⟨xs, rfl, hx⟩ := hx
      obtain ⟨ys, rfl, hy⟩ := hy
      obtain ⟨h1, h2⟩ := eqKs_eq h hx hy
      have h1 : xs = ys := by
        rw [← Array.toArray_toList (xs := xs), h1]
      subst h1
      refine ⟨rfl, fun n => ?_⟩
      simp only [Instr.sameBits, beq_self_eq_true, Bool.true_and, List.all_eq_true]
      intro p hp
      have : p.1 = p.2 ∧ p.1 ∈ xs.toList := by
        have key : ∀ (l : List Value) (p : Value × Value), p ∈ l.zip l → p.1 = p.2 ∧ p.1 ∈ l := by
          intro l
          induction l with
          | nil => intro p hp; simp at hp
          | cons a l ih =>
            intro p hp
            simp only [List.zip_cons_cons, List.mem_cons] at hp
            rcases hp with rfl | hp
            · exact ⟨rfl, by simp⟩
            · obtain ⟨h1, h2⟩ := ih p hp
              exact ⟨h1, List.mem_cons_of_mem _ h2⟩
        exact key _ p hp
      obtain ⟨p1, p2⟩ := p
      obtain ⟨e1, e2⟩ := this
      simp only at e1 e2
      subst e1
      exact h2 n _ e2
    · cases h

theorem ERel.getI {es : List (AV × AV × Nat)} {l : List MapEntry} (h : ERel ρ es l) {i : Nat} {q v : AV} {b : Nat} (hi : es[i]? = some (q, v, b)) : ∃ en, l[i]? = some en ∧ VRel ρ q en.key := by
  induction es generalizing l i with
  | nil => simp at hi
  | cons x es ih =>
    obtain ⟨q', v', b'⟩ := x
    obtain ⟨en, l', rfl, h1, h2, h3, h4⟩ := h
    cases i with
    | zero =>
      simp at hi
      obtain ⟨rfl, rfl, rfl⟩ := hi
      exact ⟨en, by simp, h1⟩
    | succ i =>
      rw [List.getElem?_cons_succ] at hi ⊢
      exact ih h4 hi

theorem mupd_run (k : Inv P K W0 ρ h w) {kt : KT} {a x : AV} {t kty ety : TypeId} {mv kv xv : Value} (hu : P.underlying t = some (.map kty ety)) (hkt : ktM P kty kt = true) {mm : AV} (hm : VRel ρ mm mv) (hk : VRel ρ a kv) (hx : VRel ρ x xv)
    (hv : wMupd h kt mm a x = .v v h') : ∃ w', (Instr.mapUpdate t mv kv xv).run P w = .ok () w' ∧ v = .tup [] ∧ Inv P K W0 ρ h' w' ∧ Fr ρ h ρ h' := by
  unfold wMupd at hv
  replace hv := bf_v hv
  obtain ⟨hko, hv⟩ := hv
  have hck := fun em => checkKey_run hkt hk hko em 9998 w
  split at hv
  · rename_i id
    simp only [VRel] at hm
    obtain ⟨r, hr, rfl⟩ := hm
    rw [getObj_eq] at hv
    split at hv
    · rename_i es cl hg
      obtain ⟨es', hw, hes⟩ := k.obj _ _ _ hg hr
      have hb := k.bound _ _ hr
      split at hv
      · rename_i i vv hf
        injection hv with e1 e2
        subst e1 e2
        obtain ⟨r', hr1, u, rfl, hu2⟩ := findKey_run hkt hk w hes hf
        obtain ⟨_, hlt, q, v', b, hq, heq⟩ := findE_lt hf
        simp only [Nat.sub_zero] at hlt hq
        obtain ⟨en, hen, hqk⟩ := hes.getI hq
        obtain ⟨e3, e4⟩ := eqKT_eq heq hk hqk
        have hen' : es'[i]? = some en := by simpa using hen
        have hsb : Instr.sameBits 10000 en.key kv = true := by rw [← e3]; exact e4 9999
        refine ⟨{ w with heap := w.heap.setIfInBounds r.blk (.map (es'.modify i fun e => { e with key := kv, val := xv }) cl) }, ?_, rfl, ?_⟩
        · simp [Instr.mapUpdate, run_underlying hu, run_getObj_map hw, hck, hr1, hen', Instr.keyThatStays, hsb, run_setObj hw (by simp)]
        · refine k.wrote hg hr rfl (fun B hB => heap_set_ne _ _ _ _ hB) (by simp) rfl rfl rfl rfl ?_
          exact ⟨_, heap_set_same _ _ _ hb, by simpa using setE_rel hk hx hes hlt⟩
      · rename_i hf
        injection hv with e1 e2
        subst e1 e2
        obtain ⟨r', hr1, hr2⟩ := findKey_run hkt hk w hes hf
        simp only [FRel] at hr2
        subst hr2
        refine ⟨{ w with heap := w.heap.setIfInBounds r.blk (.map (es'.push { key := kv, val := xv, born := cl }) (cl + 1)) }, ?_, rfl, ?_⟩
        · simp [Instr.mapUpdate, run_underlying hu, run_getObj_map hw, hck, hr1, run_setObj hw (by simp)]
        · refine k.wrote hg hr rfl (fun B hB => heap_set_ne _ _ _ _ hB) (by simp) rfl rfl rfl rfl ?_
          refine ⟨_, heap_set_same _ _ _ hb, ?_⟩
          rw [Array.toList_push]
          exact hes.append ⟨_, [], rfl, hk, hx, rfl, rfl⟩
      · cases hv
    · cases hv
  · cases hv

theorem s_mupd (k : Inv P K W0 ρ h w) (H : ∀ x X, m x X = true → VRel ρ (e X) (f x)) {kt : KT} {M Kk X : Opd} (hm : mMupd P m o.op kt M Kk X = true) (hv : wMupd h kt (e M) (e Kk) (e X) = .v v h') : WOk P K W0 w ρ h f o v h' := by
  have fin : ∀ (t : TypeId) (a b c : Operand), (m a M && m b Kk && m c X && (match P.underlying t with | some (.map kty _) => ktM P kty kt | _ => false)) = true →
      (execOp f o).run P w = ((Instr.mapUpdate t (f a) (f b) (f c)).run P w).andThen (fun _ w' => .ok .skip w') → WOk P K W0 w ρ h f o v h' := by
    intro t a b c hc hrun
    simp only [Bool.and_eq_true] at hc
    obtain ⟨⟨⟨h1, h2⟩, h3⟩, h4⟩ := hc
    split at h4
    · rename_i kty ety hu
      obtain ⟨w', r1, rfl, r3, r4⟩ := mupd_run k hu h4 (H _ _ h1) (H _ _ h2) (H _ _ h3) hv
      refine ⟨.skip, w', ρ, undef, by rw [hrun, r1]; rfl, .inr ⟨rfl, rfl⟩, by simp only [VRel]; exact ⟨#[], rfl, by simp⟩, r3, r4⟩
    · cases h4
  unfold mMupd at hm
  simp only at hm
  split at hm
  · rename_i t a b c ho
    exact fin t a b c hm (by simp [execOp, ho])
  · rename_i t a b c ho
    exact fin t a b c hm (by simp [execOp, ho])
  · cases hm

theorem ERel.bornAll {es : List (AV × AV × Nat)} {l : List MapEntry} (h : ERel ρ es l) : es.map (fun x => x.2.2) = l.map (·.born) := by
  induction es generalizing l with
  | nil => simp only [ERel] at h; simp [h]
  | cons x es ih =>
    obtain ⟨q', v', b'⟩ := x
    obtain ⟨en, l', rfl, h1, h2, h3, h4⟩ := h
    simp [ih h4, h3]

theorem s_next (k : Inv P K W0 ρ h w) (H : ∀ x X, m x X = true → VRel ρ (e X) (f x)) {X : Opd} (hm : mNext m o.op X = true) (hv : wNext h (e X) = .v v h') : WOk P K W0 w ρ h f o v h' := by
  unfold mNext at hm
  split at hm
  · rename_i x ho
    have hx := H _ _ hm
    unfold wNext at hv
    split at hv
    · rename_i id he
      rw [he] at hx
      simp only [VRel] at hx
      obtain ⟨r, hr, hx⟩ := hx
      simp only [getObj_eq] at hv
      split at hv
      · rename_i since seen st hg
        obtain ⟨hb, m', hw, hm'⟩ := k.obj _ _ _ hg hr
        subst hm'
        injection hv with e1 e2
        subst e1 e2
        rw [hb] at hx
        have g1 : (Go.getObj r.blk).run P w = .ok (.mapIter none since seen.toArray st) w := by simp [Go.getObj, Sem.run, hw]
        refine ⟨.value (.tuple #[.bool false]), w, ρ, .tuple #[.bool false], ?_, .inl rfl, by simp only [VRel]; exact ⟨_, rfl, VRelL.cons'.2 ⟨by simp only [VRel], VRelL.nil.2 rfl⟩⟩, k, Fr.refl _ _⟩
        simp [execOp, ho, hx, Instr.next, g1]
      · rename_i mm since seen last hg
        obtain ⟨hb, m', hw, q, hq, hm'⟩ := k.obj _ _ _ hg hr
        subst hm'
        split at hv
        · rename_i es clock hg2
          replace hv := bf_v hv
          obtain ⟨hc, hv⟩ := hv
          simp only [Bool.and_eq_true, beq_iff] at hc
          obtain ⟨c1, c2⟩ := hc
          subst c1 c2
          obtain ⟨es', hw2, hes⟩ := k.obj _ _ _ hg2 hq
          rw [hb] at hx
          have g1 : (Go.getObj r.blk).run P w = .ok (.mapIter (some q.blk) since seen.toArray since) w := by simp [Go.getObj, Sem.run, hw]
          have g2 := run_getObj_map (P := P) hw2
          have hbd := k.bound _ _ hr
          split at hv
          · rename_i hcd
            injection hv with e1 e2
            subst e1 e2
            refine ⟨.value (.tuple #[.bool false]), w, ρ, .tuple #[.bool false], ?_, .inl rfl, by simp only [VRel]; exact ⟨_, rfl, VRelL.cons'.2 ⟨by simp only [VRel], VRelL.nil.2 rfl⟩⟩, k, Fr.refl _ _⟩
            unfold candidates at hcd
            split at hcd
            · simp only [ERel] at hes
              have hes' : es' = #[] := by rw [← Array.toArray_toList (xs := es'), hes]
              subst hes'
              simp [execOp, ho, hx, Instr.next, g1, g2, Question.forced]
            · cases hcd
            · rename_i kk vv b s
              obtain ⟨hbs, _⟩ := bf_some hcd
              simp only [Bool.and_eq_true, beq_iff, blt_iff] at hbs
              obtain ⟨b1, b2⟩ := hbs
              subst b1
              obtain ⟨en, l', hl, q1, q2, q3, q4⟩ := hes
              simp only [ERel] at q4
              subst q4
              have hes' : es' = #[en] := by rw [← Array.toArray_toList (xs := es'), hl]
              subst hes'
              have hnb : ¬ (since ≤ en.born) := by omega
              simp [execOp, ho, hx, Instr.next, g1, g2, q3, b2, Question.forced, Nat.not_le.2 b2]
            · cases hcd
          · rename_i kk vv b hcd
            replace hv := bf_v hv
            obtain ⟨hlt, hv⟩ := hv
            have hlt := blt_iff.1 hlt
            injection hv with e1 e2
            subst e1 e2
            unfold candidates at hcd
            split at hcd
            · cases hcd
            · injection hcd with hcd
              injection hcd with hcd
              subst hcd
              obtain ⟨en, l', hl, q1, q2, q3, q4⟩ := hes
              simp only [ERel] at q4
              subst q4
              have hes' : es' = #[en] := by rw [← Array.toArray_toList (xs := es'), hl]
              subst hes'
              refine ⟨.value (.tuple #[.bool true, en.key, en.val]), { w with heap := w.heap.setIfInBounds r.blk (.mapIter (some q.blk) since #[en.born] since) }, ρ, .tuple #[.bool true, en.key, en.val], ?_, .inl rfl, ?_, ?_⟩
              · simp [execOp, ho, hx, Instr.next, g1, g2, q3, hlt, Question.forced, Nat.not_le.2 hlt, run_setObj hw (by simp)]
              · simp only [VRel]
                exact ⟨_, rfl, VRelL.cons'.2 ⟨by simp only [VRel], VRelL.cons'.2 ⟨q1, VRelL.cons'.2 ⟨q2, VRelL.nil.2 rfl⟩⟩⟩⟩
              · refine k.wrote hg hr rfl (fun B hB => heap_set_ne _ _ _ _ hB) (by simp) rfl rfl rfl rfl ?_
                refine ⟨hb, some q.blk, ?_, q, hq, rfl⟩
                rw [heap_set_same _ _ _ hbd]
                simp [q3]
            · obtain ⟨_, hcd⟩ := bf_some hcd
              cases hcd
            · cases hcd
          · cases hv
        · cases hv
      · cases hv
    · cases hv
  · cases hm

end
end
end Go.Absm

/- The abstract machine: slices that are written out. -/
namespace Go.Absm
noncomputable section
set_option linter.unusedVariables false
set_option linter.unusedSectionVars false

def partsB (m : Operand → Opd → Bool) (len : Nat) : List (Nat × Operand) → List (Nat × Opd) → Bool
  | [], [] => true
  | (i, x) :: l, (j, X) :: L => Nat.beq i j && Nat.blt i len && m x X && partsB m len l L
  | _, _ => false
def mBslice (P : Program) (m : Operand → Opd → Bool) (o : Op) (sz ty len : Nat) (z : List AV) (ps : List (Nat × Opd)) : Bool :=
  match o with
  | .buildSlice t n parts => Nat.beq n len && !(Nat.beq sz 0) && Nat.ble (Nat.mul len sz) 16777216 && partsB m len parts.toList ps &&
    (match P.underlying t with
      | some (.slice e) => Nat.beq e ty && (match P.info? e with
        | some i => Nat.beq i.size sz && (Nat.beq len 0 || (Nat.beq (lenL z) sz && (match i.zero with | some v => cAVL v.cells.toList z | none => false)))
        | none => false)
      | _ => false)
  | _ => false

section
variable {P : Program} {K : CK} {W0 w : World} {ρ : Rho} {h h' : AHeap} {m : Operand → Opd → Bool} {f : Operand → Value} {o : Oper} {v : AV} {sc : List AV} {env : T AV}

theorem fillB_sound (H : ∀ x X, m x X = true → VRel ρ (ev X sc env) (f x)) {sz len : Nat} (hlid : len ≤ lid) :
    ∀ (parts : List (Nat × Operand)) (ps : List (Nat × Opd)) (mm mm' : T (List AV)) (cells : Array Value), partsB m len parts ps = true → cells.size = len * sz → RowsRel ρ sz len mm cells 0 → fillElems sz ps sc env mm = some mm' →
      ∃ cells' : Array Value, Instr.fill (fun i => some (i * sz, sz)) cells (parts.map fun (i, x) => (i, f x)) = some cells' ∧ cells'.size = len * sz ∧ RowsRel ρ sz len mm' cells' 0
  | [], [], mm, mm', cells, _, hs, hr, hf => by
    simp only [fillElems] at hf
    injection hf with hf
    subst hf
    exact ⟨cells, by simp [Instr.fill], hs, hr⟩
  | (i, x) :: parts, (j, X) :: ps, mm, mm', cells, hm, hs, hr, hf => by
    simp only [partsB, Bool.and_eq_true, beq_iff, blt_iff] at hm
    obtain ⟨⟨⟨h1, h2⟩, h3⟩, h4⟩ := hm
    subst h1
    simp only [fillElems] at hf
    obtain ⟨hb, hf⟩ := bf_some hf
    simp only [Bool.and_eq_true, beq_iff] at hb
    obtain ⟨b1, b2⟩ := hb
    rw [lenL_eq] at b1
    obtain ⟨hc, _⟩ := cells_rel (H _ _ h3) b2
    have hcl := hc.length
    simp only [Array.length_toList] at hcl
    have hle : i * sz + (f x).cells.size ≤ cells.size := by
      have : (i + 1) * sz ≤ len * sz := Nat.mul_le_mul_right _ h2
      rw [Nat.add_mul] at this
      omega
    have hfl := foldl_put (f x).cells (i * sz) cells hle
    have hsz2 : ((f x).cells.zipIdx.foldl (fun cs (c, j) => cs.setIfInBounds (i * sz + j) c) cells).size = len * sz := by
      rw [← Array.length_toList, hfl]
      simp
      omega
    have hget : ∀ k : Nat, ((f x).cells.zipIdx.foldl (fun cs (c, j) => cs.setIfInBounds (i * sz + j) c) cells)[k]? = (cells.toList.take (i * sz) ++ (f x).cells.toList ++ cells.toList.drop (i * sz + (f x).cells.size))[k]? := by
      intro k
      rw [← hfl]
      simp
    have hrow : RowsRel ρ sz len (mm.set (pos i) (ev X sc env).cells) ((f x).cells.zipIdx.foldl (fun cs (c, j) => cs.setIfInBounds (i * sz + j) c) cells) 0 := by
      refine rows_put (ls := [(ev X sc env).cells]) (vs := (f x).cells.toList) (c := cells) hr (by simp [b1]) (by simp only [List.length_singleton]; omega) hlid (by simpa [joinL] using hc) (fun k u hk => ?_) (fun k u hk hck => ?_)
      · rw [hget]
        have hkl := (List.getElem?_eq_some_iff.1 hk).1
        simp only [Array.length_toList] at hkl
        rw [List.append_assoc, List.getElem?_append, if_neg (by simp; omega), List.getElem?_append]
        have e : 0 + i * sz + k - (cells.toList.take (i * sz)).length = k := by simp; omega
        rw [e, if_pos (by simpa using hkl)]
        exact hk
      · rw [hget]
        simp only [List.length_singleton, Nat.add_mul, Nat.one_mul, Nat.zero_add] at hk
        rw [List.append_assoc, List.getElem?_append]
        rcases hk with hk | hk
        · have hkc := (Array.getElem?_eq_some_iff.1 hck).1
          rw [if_pos (by simp; omega), List.getElem?_take, if_pos hk]
          simpa using hck
        · have hkc := (Array.getElem?_eq_some_iff.1 hck).1
          rw [if_neg (by simp; omega), List.getElem?_append, if_neg (by simp; omega), List.getElem?_drop]
          have e : i * sz + (f x).cells.size + (k - (cells.toList.take (i * sz)).length - (f x).cells.toList.length) = k := by simp; omega
          rw [e]
          simpa using hck
    obtain ⟨c2, h5, h6, h7⟩ := fillB_sound H hlid parts ps _ mm' _ h4 hsz2 hrow hf
    refine ⟨c2, ?_, h6, h7⟩
    rw [← h5, List.map_cons]
    simp only [Instr.fill]
    rw [if_neg]
    simp only [Bool.or_eq_true, decide_eq_true_eq, ne_eq, not_or, Decidable.not_not]
    exact ⟨by omega, by omega⟩
  | [], _ :: _, _, _, _, hm, _, _, _ => by simp [partsB] at hm
  | _ :: _, [], _, _, _, hm, _, _, _ => by simp [partsB] at hm

theorem bslice_run (H : ∀ x X, m x X = true → VRel ρ (ev X sc env) (f x)) {sz ty len : Nat} {z : List AV} {ps : List (Nat × Opd)} {mm : T (List AV)} (hm : mBslice P m o.op sz ty len z ps = true)
    (hf : fillElems sz ps sc env (putElems (reptE z len) .nl 0) = some mm) (w : World) :
    ∃ obj, (execOp f o).run P w = .ok (.value (.slice (some ⟨w.heap.size, 0, none⟩) len len)) (w.alloc obj) ∧
      ∀ ρ' : Rho, ρ.le ρ' → ORel K ρ' ⟨w.heap.size, 0, len * sz, sz⟩ (w.alloc obj) (.cells sz ty 0 len mm) := by
  unfold mBslice at hm
  split at hm
  · rename_i t n parts ho
    simp only [Bool.and_eq_true, beq_iff, ble_iff] at hm
    obtain ⟨⟨⟨⟨h1, h2⟩, h3⟩, h4⟩, h5⟩ := hm
    subst h1
    have h3 : n * sz ≤ 16777216 := h3
    have hsz : 0 < sz := Nat.pos_of_ne_zero (by intro h0; rw [h0] at h2; simp at h2)
    have hnl : n ≤ lid := by
      have : n * 1 ≤ n * sz := Nat.mul_le_mul_left _ hsz
      simp only [lid]; omega
    split at h5
    · rename_i el hu
      simp only [Bool.and_eq_true, beq_iff] at h5
      obtain ⟨g1, h5⟩ := h5
      subst g1
      split at h5
      · rename_i i hi
        simp only [Bool.and_eq_true, Bool.or_eq_true, beq_iff] at h5
        obtain ⟨i1, i2⟩ := h5
        obtain ⟨zero, hzero, hrow⟩ : ∃ zero : Array Value, ((if n * i.size = 0 then pure #[] else do pure (← zeroValue el).cells : Sem (Array Value)).run P w = .ok zero w) ∧
            RowsRel ρ sz n (putElems (reptE z n) .nl 0) ((Array.range (n * sz)).map (zero[· % zero.size]!)) 0 := by
          by_cases hn : n = 0
          · subst hn
            refine ⟨#[], by simp, ?_⟩
            simp only [reptE, putElems]
            exact rows_nl
          · rcases i2 with i2 | ⟨i2, i3⟩
            · exact absurd i2 hn
            · rw [lenL_eq] at i2
              split at i3
              · rename_i zv hz
                have hne : ¬ (n * i.size = 0) := by rw [i1]; exact Nat.mul_ne_zero hn (by omega)
                refine ⟨zv.cells, by simp [hne, zeroValue, typeInfo, hi, hz], ?_⟩
                exact rows_new (fun l hl => by rw [reptE_mem hl]; exact i2) (by rw [reptE_length]; exact Nat.le_refl _) hnl (zeros_rel (cAVL_sound i3 ρ) i2 n) (by intro j v hj; rw [← Array.getElem?_toList]; exact hj)
              · cases i3
        obtain ⟨cells', h6, h7, h8⟩ := fillB_sound H hnl parts.toList ps _ mm _ h4 (by simp) hrow hf
        refine ⟨.cells cells' el (0, 0), ?_, fun ρ' le => ⟨hsz, rfl, Nat.le_refl _, hnl, Nat.zero_mod _, cells', (0, 0), heap_alloc_new _ _, by rw [h7]; simp, h8.mono le, fun _ => Nat.zero_le _⟩⟩
        have hpt : (parts.map fun (i, x) => (i, f x)).toList = parts.toList.map fun (i, x) => (i, f x) := by simp
        have hbig : ¬ (n * sz > 2 ^ 24) := by omega
        rw [i1] at hzero
        have hpt2 : (parts.map fun (i, x) => (i, f x)).toList = parts.toList.map fun x => (x.1, f x.2) := by simp
        have h6' : Instr.fill (fun i => some (i * sz, sz)) ((Array.range (n * sz)).map (zero[· % zero.size]!)) (parts.toList.map fun x => (x.1, f x.2)) = some cells' := h6
        by_cases hz0 : n * sz = 0
        · rw [if_pos hz0] at hzero
          have hz1 : zero = #[] := by simpa using hzero.symm
          subst hz1
          simp only [execOp, ho, Instr.buildSlice, Sem.run_bind, run_underlying hu, Result.andThen_ok, sizeOf, typeInfo, run_program, hi, Sem.run_pure, i1, hbig, if_false, if_pos hz0, hpt2, h6']
          simp [newRow]
        · rw [if_neg hz0] at hzero
          obtain ⟨zv, hzv, hze⟩ : ∃ zv, (zeroValue el).run P w = .ok zv w ∧ zv.cells = zero := by
            simp only [Sem.run_bind] at hzero
            unfold zeroValue typeInfo at hzero ⊢
            simp only [Sem.run_bind, run_program, Result.andThen_ok, hi, Sem.run_pure] at hzero ⊢
            cases hz : i.zero with
            | none => simp [hz] at hzero
            | some zv => exact ⟨zv, by simp, by simpa [hz] using hzero⟩
          subst hze
          simp only [execOp, ho, Instr.buildSlice, Sem.run_bind, run_underlying hu, Result.andThen_ok, sizeOf, typeInfo, run_program, hi, Sem.run_pure, i1, hbig, if_false, if_neg hz0, hzv, hpt2, h6']
          simp [newRow]
      · cases h5
    · cases h5
  · cases hm

theorem s_bslice (k : Inv P K W0 ρ h w) (H : ∀ x X, m x X = true → VRel ρ (ev X sc env) (f x)) {sz ty len : Nat} {z : List AV} {ps : List (Nat × Opd)} (hm : mBslice P m o.op sz ty len z ps = true)
    (hv : wBslice h sz ty len (fillElems sz ps sc env (putElems (reptE z len) .nl 0)) = .v v h') : WOk P K W0 w ρ h f o v h' := by
  unfold wBslice at hv
  split at hv
  · rename_i mm hf
    rw [rSl_eq] at hv
    injection hv with e1 e2
    subst e1 e2
    obtain ⟨obj, h1, h2⟩ := bslice_run (K := K) H hm hf w
    refine WOk.fresh k (r := ⟨w.heap.size, 0, len * sz, sz⟩) rfl h1 (h2 _ (Rho.le_put (k.fresh h.next (Nat.le_refl _)).1 _)) ?_
    simp only [VRel]
    exact ⟨⟨w.heap.size, 0, len * sz, sz⟩, _, _, by rw [newBlock_fst]; exact Rho.put_self _ _ _, rfl, fun _ => rfl, Nat.le_refl _, Nat.le_refl _, fun _ => rfl, by simp⟩
  · cases hv

end
end
end Go.Absm

/- The abstract machine: what is appended or copied. -/
namespace Go.Absm
noncomputable section
set_option linter.unusedVariables false
set_option linter.unusedSectionVars false

section
variable {P : Program} {K : CK} {W0 w : World} {ρ : Rho} {h h' : AHeap} {m : Operand → Opd → Bool} {f : Operand → Value} {o : Oper} {v : AV} {sc : List AV} {env : T AV}

theorem bytesOf_length : ∀ n x, (bytesOf n x).length = n
  | 0, x => rfl
  | n + 1, x => by simp [bytesOf, bytesOf_length n]

theorem bytesOf_rel : ∀ n x, VRelL ρ (joinL (bytesOf n x)) ((strL n x).map fun b => Value.int .u8 b.toNat) ∧ ∀ l ∈ bytesOf n x, l.length = 1
  | 0, x => by simp [bytesOf, joinL, strL]
  | n + 1, x => by
    obtain ⟨h1, h2⟩ := bytesOf_rel n (x / 256)
    constructor
    · simp only [bytesOf, joinL, List.singleton_append, strL, List.map_cons]
      refine VRelL.cons'.2 ⟨?_, h1⟩
      simp only [VRel]
      congr 1
      have : x % 256 < 256 := Nat.mod_lt _ (by omega)
      simp
      rfl
    · intro l hl
      simp only [bytesOf, List.mem_cons] at hl
      rcases hl with rfl | hl
      · rfl
      · exact h2 l hl

/-- What is appended, or copied: its elements. -/
theorem src_of (k : Inv P K W0 ρ h w) {sz : Nat} {a : AV} {x : Value} (hx : VRel ρ a x) {ls : List (List AV)} (hs : srcElems h sz a = some ls) (hone : ∀ l ∈ ls, okCells l = true) {tx : TypeId}
    (hk : (∃ e', P.underlying tx = some (.slice e')) ∨ P.underlying tx = some .string) :
    ∃ news, Src P sz tx x ls.length news w ∧ VRelL ρ (joinL ls) news ∧ (∀ l ∈ ls, l.length = sz) := by
  have oneL : ∀ (l : List AV) (vs : List Value), VRelL ρ l vs → okCells l = true → ∀ u ∈ vs, u.oneCell' = true := by
    intro l vs hv ho
    have := (cells_rel (ρ := ρ) (a := .agg l) (x := .agg vs.toArray) (by simp only [VRel]; exact ⟨_, rfl, by simpa using hv⟩) ho).2
    simpa [Value.cells] using this
  have okJ : ∀ (ls : List (List AV)), (∀ l ∈ ls, okCells l = true) → okCells (joinL ls) = true := by
    intro ls
    induction ls with
    | nil => intro _; rfl
    | cons l ls ih =>
      intro hl
      have happ : ∀ (a b : List AV), okCells a = true → okCells b = true → okCells (a ++ b) = true := by
        intro a b ha hb
        induction a with
        | nil => exact hb
        | cons x a iha =>
          simp only [okCells, Bool.and_eq_true] at ha
          simp only [List.cons_append, okCells, Bool.and_eq_true]
          exact ⟨ha.1, iha ha.2⟩
      exact happ _ _ (hl l (List.mem_cons_self ..)) (ih fun l' hl' => hl l' (List.mem_cons_of_mem _ hl'))
  unfold srcElems at hs
  split at hs
  · simp only [VRel] at hx
    subst hx
    injection hs with hs
    subst hs
    exact ⟨[], ⟨hk, fun _ => rfl, run_firstCells_none w sz 0 0 0, run_firstCells_none w.drew sz 0 0 0, by simp, fun _ h => by cases h⟩, by simp [joinL], by simp⟩
  · rename_i n xx
    simp only [VRel] at hx
    obtain ⟨rfl, hlt⟩ := hx
    obtain ⟨h1, hs⟩ := bf_some hs
    have h1 := beq_iff.1 h1
    subst h1
    injection hs with hs
    subst hs
    obtain ⟨h2, h3⟩ := bytesOf_rel (ρ := ρ) n xx
    have hbc : byteCells (strBA n xx) = (strL n xx).map fun b => Value.int .u8 b.toNat := by
      unfold byteCells
      rw [strBA_data]
    refine ⟨(strL n xx).map fun b => Value.int .u8 b.toNat, ⟨hk, fun w' => ?_, ?_, ?_, ?_, ?_⟩, h2, h3⟩
    · simp [Builtin.lenOf, bytesOf_length, strBA_size]
    · have := firstCells_string (P := P) (strBA n xx) w
      rw [strBA_size, hbc] at this
      rw [bytesOf_length]
      exact this
    · have := firstCells_string (P := P) (strBA n xx) w.drew
      rw [strBA_size, hbc] at this
      rw [bytesOf_length]
      exact this
    · simp [bytesOf_length, strL_length]
    · intro u hu
      obtain ⟨_, _, rfl⟩ := List.mem_map.1 hu
      rfl
  · rename_i id off len cap ex
    simp only [VRel] at hx
    obtain ⟨r, a', c, hr, rfl, ha, hcap, hlen, _⟩ := hx
    by_cases hz : len = 0
    · subst hz
      have : ls = [] := by injection hs with hs; exact hs.symm
      subst this
      refine ⟨[], ⟨hk, fun _ => rfl, ?_, ?_, by simp, fun _ h => by cases h⟩, by simp [joinL], by simp⟩
      · exact run_firstCells_some w sz 0 a' 0 c [] (by simp) (by simp)
      · exact run_firstCells_some w.drew sz 0 a' 0 c [] (by simp) (by simp)
    · obtain ⟨hp, hoff, hl1, hl2, vs, hl3, hl4, hl5⟩ := srcElems_sl (K := K) (cap := cap) (ex := ex) k hr (by simpa only [srcElems] using hs) hz
      have ha := ha (by omega)
      have hcell : ∀ j v, vs[j]? = some v → w.cell? (a'.add j) = some v := fun j v hv => by rw [ha, Addr.add_mid]; exact hl5 j v hv
      refine ⟨vs, ⟨hk, fun _ => by simp [Builtin.lenOf, hl1], ?_, ?_, by rw [hl3, hl1], oneL _ _ hl4 (okJ ls hone)⟩, hl4, hl2⟩
      · rw [hl1]; exact run_firstCells_some w sz len a' len c vs hl3 hcell
      · rw [hl1]; exact run_firstCells_some w.drew sz len a' len c vs hl3 (by simpa using hcell)
  · cases hs

end
end
end Go.Absm

/- The abstract machine: what is appended. -/
namespace Go.Absm
noncomputable section
set_option linter.unusedVariables false
set_option linter.unusedSectionVars false

def sliceT (P : Program) (t : TypeId) (ty sz bytes : Nat) : Bool :=
  match P.underlying t with
  | some (.slice e) => Nat.beq e ty && (match P.info? e with
    | some i => Nat.beq i.size sz && Nat.beq i.bytes bytes && (match i.zero with | some v => Nat.beq v.cells.size sz | none => false)
    | none => false)
  | _ => false
def seqT (P : Program) (t : TypeId) : Bool :=
  match P.underlying t with
  | some (.slice _) => true
  | some .string => true
  | _ => false
def mAppend (P : Program) (m : Operand → Opd → Bool) (o : Op) (sz ty bytes : Nat) (S X : Opd) : Bool :=
  match o with
  | .call { callee := .builtin .append, args, argTypes } =>
    (match args.toList, argTypes.toList with
      | [s, x], [t, tx] => m s S && m x X && sliceT P t ty sz bytes && seqT P tx
      | _, _ => false)
  | _ => false
def mAppendZ (P : Program) (m : Operand → Opd → Bool) (o : Op) (sz ty bytes : Nat) (z : List AV) (S X : Opd) : Bool :=
  match o with
  | .call { callee := .builtin .append, args, argTypes } =>
    (match args.toList, argTypes.toList with
      | [s, x], [t, tx] => m s S && m x X && sliceT P t ty sz bytes && okCells z && zeroIs P ty z && (match P.underlying tx with | some (.int _) => true | _ => false)
      | _, _ => false)
  | _ => false

theorem growBy_le (n M : Nat) (hM : n + (n + 768) / 4 ≤ M) : ∀ (k c : Nat), c ≤ M → Builtin.growBy n k c ≤ M
  | 0, c, h => by simpa [Builtin.growBy] using h
  | k + 1, c, h => by
    simp only [Builtin.growBy]
    split
    · exact h
    · rename_i hc
      exact growBy_le n M hM k _ (by omega)

theorem nsc_le {n c : Nat} (hc : c < n) : Builtin.nextslicecap n c ≤ 194 * n := by
  unfold Builtin.nextslicecap
  split
  · omega
  · split
    · omega
    · exact growBy_le n _ (by omega) 4 c (by omega)

theorem nsc_bytes {n c bytes : Nat} (hc : c < n) (hb : n * bytes ≤ big) : Builtin.nextslicecap n c * bytes ≤ 281474976710656 := by
  have h1 : Builtin.nextslicecap n c * bytes ≤ 194 * n * bytes := Nat.mul_le_mul_right _ (nsc_le hc)
  rw [Nat.mul_assoc] at h1
  unfold big at hb
  omega

section
variable {P : Program} {K : CK} {W0 w : World} {ρ : Rho} {h h' : AHeap} {m : Operand → Opd → Bool} {e : Opd → AV} {f : Operand → Value} {o : Oper} {v : AV} {sc : List AV} {env : T AV}

/-- What an append does with what it is given. -/
structure App (P : Program) (i : TypeInfo) (t tx rt el : TypeId) (x : Value) (n : Nat) (news : List Value) (w : World) : Prop where
  zero : n = 0 → ∀ (base : Option Addr) (sLen sCap : Nat), sLen ≤ sCap → (Builtin.append_ #[t, tx] rt #[.slice base sLen sCap, x]).run P w = .ok (.slice base sLen sCap) w
  room : ∀ (b off sLen sCap : Nat), sLen + n ≤ sCap → (∀ j, j < news.length → (w.cell? ⟨b, off + sLen * i.size + j, none⟩).isSome = true) →
    (∀ j, j < news.length → w.frozen? ⟨b, off + sLen * i.size + j, none⟩ = false) →
    (Builtin.append_ #[t, tx] rt #[.slice (some ⟨b, off, none⟩) sLen sCap, x]).run P w = .ok (.slice (some ⟨b, off, none⟩) (sLen + n) sCap) (w.setCells b (off + sLen * i.size) news)
  grow : ∀ (z : Value), i.zero = some z → ∀ (base : Option Addr) (sLen sCap : Nat) (olds : List Value), (Builtin.firstCells i.size sLen (.slice base sLen sCap)).run P w.drew = .ok olds.toArray w.drew → sCap < sLen + n →
    (sLen + n) * i.bytes ≤ big → sLen + n < big →
    (Builtin.append_ #[t, tx] rt #[.slice base sLen sCap, x]).run P w = .ok (.slice (some ⟨w.heap.size, 0, none⟩) (sLen + n) (grownCap w (sLen + n) sCap el))
        (w.drew.alloc (.cells ((olds ++ news).toArray ++ Builtin.zeroCells z.cells (grownCap w (sLen + n) sCap el - (sLen + n))) el))
  newsLen : news.length = n * i.size

theorem app_src {i : TypeInfo} {t tx rt el : TypeId} (ht : P.underlying t = some (.slice el)) (hi : P.info? el = some i) {x : Value} {n : Nat} {news : List Value} (hs : Src P i.size tx x n news w) : App P i t tx rt el x n news w := by
  refine ⟨fun h0 base sLen sCap hle => ?_, fun b off sLen sCap hle hc hf => run_append_room_src w t tx rt el i ht hi b off sLen sCap x n news hs hle hc hf, fun z hz base sLen sCap olds hold hg hb hlt => ?_, hs.newsLen⟩
  · subst h0
    have hn : news = [] := by have := hs.newsLen; simp at this; exact this
    subst hn
    have hs0 : ∀ a : Addr, (Go.storeCells a []).run P w = .ok () w := fun a => by simp [Go.storeCells]
    rcases hs.kind with ⟨e', hk⟩ | hk <;> cases base <;> simp [Builtin.append_, run_underlying ht, run_underlying hk, sizeOf, typeInfo, hi, hs.len, hle, hs.cells, hs0]
  · refine run_append_grow_src w t tx rt el i z ht hi hz base sLen sCap olds hold x n news hs hg ?_ (nsc_bytes hg hb)
    unfold big at hlt
    omega

theorem zeroCells_size (z : Array Value) (n : Nat) : (Builtin.zeroCells z n).size = n * z.size := by simp [Builtin.zeroCells]
theorem zeroCells_zero (z : Array Value) : Builtin.zeroCells z 0 = #[] := by
  apply Array.eq_empty_of_size_eq_zero
  simp [zeroCells_size]

/-- Zeros are appended. -/
theorem app_zero {i : TypeInfo} {t tx rt el : TypeId} {kd : IntKind} (ht : P.underlying t = some (.slice el)) (hi : P.info? el = some i) (hk : P.underlying tx = some (.int kd)) {z : Value} (hz : i.zero = some z) (hzs : z.cells.size = i.size) (hsz : i.size ≠ 0)
    {kn : IntKind} {n : Nat} (hn : n < big) (hb : n * i.bytes ≤ big) (hone : ∀ u ∈ z.cells.toList, u.oneCell' = true) : App P i t tx rt el (.int kn n) n (Builtin.zeroCells z.cells n).toList w := by
  have w1 : IntKind.i64.wrap (n : Int) = n := wrap_nat (by unfold big at hn; omega)
  have t1 : ¬ ((n : Int) < 0) := by omega
  have t4 : ¬ (281474976710656 < (n : Int) * i.bytes) := by
    have b2' : ((n * i.bytes : Nat) : Int) ≤ (1099511627776 : Nat) := Int.ofNat_le.2 hb
    rw [Int.natCast_mul] at b2'
    omega
  have hnl : (Builtin.zeroCells z.cells n).toList.length = n * i.size := by rw [Array.length_toList, zeroCells_size, hzs]
  have happ : ∀ w' : World, (if n * i.size = 0 then pure #[] else do pure (Builtin.zeroCells (← zeroValue el).cells n) : Sem (Array Value)).run P w' = .ok (Builtin.zeroCells z.cells n) w' := by
    intro w'
    split
    · rename_i h0
      have : n = 0 := by rcases Nat.mul_eq_zero.1 h0 with h | h
                         · exact h
                         · exact absurd h hsz
      subst this
      simp [zeroCells_zero]
    · simp [zeroValue, typeInfo, hi, hz]
  have hzone : ∀ u ∈ (Builtin.zeroCells z.cells n).toList, u.oneCell' = true := by
    intro u hu
    simp only [Builtin.zeroCells, Array.toList_map, List.mem_map, Array.toList_range, List.mem_range] at hu
    obtain ⟨j, hj, rfl⟩ := hu
    have hpos : 0 < z.cells.size := by rw [hzs]; omega
    have hlt : j % z.cells.size < z.cells.size := Nat.mod_lt _ hpos
    refine hone _ ?_
    rw [getElem!_pos z.cells _ hlt]
    exact Array.mem_toList_iff.2 (Array.getElem_mem hlt)
  refine ⟨fun h0 base sLen sCap hle => ?_, fun b off sLen sCap hle hc hf => ?_, fun z' hz' base sLen sCap olds hold hg hbb hlt => ?_, hnl⟩
  · subst h0
    have hs0 : ∀ a : Addr, (Go.storeCells a []).run P w = .ok () w := fun a => by simp [Go.storeCells]
    cases base <;> simp [Builtin.append_, run_underlying ht, run_underlying hk, sizeOf, typeInfo, hi, asInt, asIntOf, hle, hs0] <;> simp_all
  · have hst := run_storeCells_cells (P := P) b (off + sLen * i.size) (Builtin.zeroCells z.cells n).toList 0 w (by simpa using hc) (by simpa using hf) hzone
    simp only [Nat.add_zero] at hst
    have ha := happ w
    by_cases h0 : n * i.size = 0
    · rw [if_pos h0] at ha
      have ha' : Builtin.zeroCells z.cells n = #[] := by simpa using ha.symm
      rw [ha'] at hst ⊢
      simp [Builtin.append_, run_underlying ht, run_underlying hk, sizeOf, typeInfo, hi, asInt, asIntOf, w1, t1, t4, hle, h0, Addr.add_lit, hst]
    · simp [Builtin.append_, run_underlying ht, run_underlying hk, sizeOf, typeInfo, hi, asInt, asIntOf, w1, t1, t4, hle, h0, Addr.add_lit, hst, zeroValue, hz]
  · rw [hz] at hz'
    injection hz' with hz'
    subst hz'
    have hn' : ¬ (sLen + n ≤ sCap) := by omega
    have h63' : ¬ (9223372036854775807 < ((sLen : Int) + (n : Int))) := by unfold big at hlt; omega
    have hfit := nsc_bytes hg hbb
    have h48' : ¬ (281474976710656 < Builtin.nextslicecap (sLen + n) sCap * i.bytes) := by omega
    have ha := happ w.drew
    by_cases h0 : n * i.size = 0
    · rw [if_pos h0] at ha
      have ha' : Builtin.zeroCells z.cells n = #[] := by simpa using ha.symm
      rw [ha']
      simp [Builtin.append_, run_underlying ht, run_underlying hk, sizeOf, typeInfo, zeroValue, hi, hz, asInt, asIntOf, w1, t1, t4, h0, hn', h63', h48', Question.forced, hold, newRow, grownCap]
    · simp [Builtin.append_, run_underlying ht, run_underlying hk, sizeOf, typeInfo, zeroValue, hi, hz, asInt, asIntOf, w1, t1, t4, h0, hn', h63', h48', Question.forced, hold, newRow, grownCap]
      congr 2
      apply Array.ext'
      simp [List.append_assoc]

/-! ### Rows behind an append -/
/-- Elements behind those that are there. -/
theorem rows_onto {sz len base : Nat} {mm : T (List AV)} {c : Array Value} {ls : List (List AV)} {vs : List Value} (hc : len + ls.length ≤ lid)
    (hr : ∀ i l, i < len → mm.get (pos i) = some l → l.length = sz ∧ ∀ (j : Nat) (a : AV), l[j]? = some a → ∃ v, c[base + (i * sz + j)]? = some v ∧ VRel ρ a v) (hl : ∀ l ∈ ls, l.length = sz)
    (hv : VRelL ρ (joinL ls) vs) (hin : ∀ (j : Nat) (v : Value), vs[j]? = some v → c[base + len * sz + j]? = some v) : RowsRel ρ sz (len + ls.length) (putElems ls mm len) c base := by
  intro i l hi hg
  rw [putElems_get ls mm len i hc (by omega)] at hg
  split at hg
  · rename_i hij
    have hmem : l ∈ ls := List.mem_of_getElem? hg
    have hll := hl l hmem
    refine ⟨hll, fun b a hb => ?_⟩
    have hbs : b < sz := by
      have := (List.getElem?_eq_some_iff.1 hb).1
      omega
    have hja := joinL_get ls hl (i - len) b hbs
    rw [hg] at hja
    simp only [Option.bind_some, hb] at hja
    obtain ⟨v, h1, h2⟩ := hv.get hja
    refine ⟨v, ?_, h2⟩
    have := hin _ _ h1
    have e : base + len * sz + ((i - len) * sz + b) = base + (i * sz + b) := by
      have : len * sz + (i - len) * sz = i * sz := by rw [← Nat.add_mul]; congr 1; omega
      omega
    rw [e] at this
    exact this
  · exact hr i l (by omega) hg

/-- The rows of a slice, as they lie where it begins. -/
theorem grown_rows {sz cnt base off len : Nat} {mm mm' : T (List AV)} {c c' : Array Value} {ls : List (List AV)} {vs : List Value} {b : Nat} (hp : 0 < sz) (hc : len + ls.length ≤ lid) (hr : RowsRel ρ sz cnt mm c base) (ho : off % sz = 0) (hle : off / sz + len ≤ cnt)
    (hsame : ∀ j v, j < len * sz → c[base + off + j]? = some v → c'[b + j]? = some v) (hl : ∀ l ∈ ls, l.length = sz) (hg : grown mm sz off len ls = some mm')
    (hv : VRelL ρ (joinL ls) vs) (hin : ∀ (j : Nat) (v : Value), vs[j]? = some v → c'[b + len * sz + j]? = some v) : RowsRel ρ sz (len + ls.length) mm' c' b := by
  have lt : ∀ i j, i < len → j < sz → i * sz + j < len * sz := by
    intro i j hi hj
    have : (i + 1) * sz ≤ len * sz := Nat.mul_le_mul_right _ hi
    rw [Nat.add_mul] at this
    omega
  unfold grown at hg
  cases hz : Nat.beq off 0 with
  | true =>
    rw [hz] at hg
    have h0 : off = 0 := beq_iff.1 hz
    subst h0
    simp only [bf_true] at hg
    injection hg with hg
    subst hg
    rw [Nat.zero_div] at hle
    refine rows_onto hc (fun i l hi hgl => ?_) hl hv hin
    obtain ⟨h1, h2⟩ := hr i l (by omega) hgl
    refine ⟨h1, fun j a hj => ?_⟩
    obtain ⟨v, h3, h4⟩ := h2 j a hj
    have hjs : j < sz := by have := (List.getElem?_eq_some_iff.1 hj).1; omega
    exact ⟨v, hsame _ _ (lt i j hi hjs) (by simpa using h3), h4⟩
  | false =>
    rw [hz] at hg
    simp only [bf_false] at hg
    split at hg
    · rename_i old hold
      injection hg with hg
      subst hg
      obtain ⟨e1, e2, us, e3, e4, e5⟩ := elems_vals hp hr len (off / sz) old hold hle
      have e0 : off / sz * sz = off := Nat.div_mul_cancel (Nat.dvd_of_mod_eq_zero ho)
      refine rows_onto hc (fun i l hi hgl => ?_) hl hv hin
      rw [putElems_get old .nl 0 i (by omega) (by omega), if_pos (by omega)] at hgl
      simp only [Nat.sub_zero] at hgl
      have hll := e2 l (List.mem_of_getElem? hgl)
      refine ⟨hll, fun j a hj => ?_⟩
      have hjs : j < sz := by have := (List.getElem?_eq_some_iff.1 hj).1; omega
      have hja := joinL_get old e2 i j hjs
      rw [hgl] at hja
      simp only [Option.bind_some, hj] at hja
      obtain ⟨v, h1, h2⟩ := e4.get hja
      refine ⟨v, hsame _ _ (lt i j hi hjs) ?_, h2⟩
      have := e5 _ _ h1
      rw [e0] at this
      exact this
    · cases hg

/-! ### Where a block's name moves -/
theorem Inv.placed (k : Inv P K W0 ρ h w) {oo : AObj} {r : Ref} (hfree : ∀ i o q, h.t.get i = some o → o.live = true → ρ i = some q → q.blk ≠ r.blk) (hb : r.blk < w.heap.size) (hown : W0.heap.size ≤ r.blk)
    (hO : ORel K (ρ.put h.next r) r w oo) : Inv P K W0 (ρ.put h.next r) (newBlock h oo).2 w ∧ Fr ρ h (ρ.put h.next r) (newBlock h oo).2 := by
  obtain ⟨k1, e1, e2, e3, e4⟩ := k.laid oo
  have le := Rho.le_put e4 r
  have old : ∀ {i : Pos} {o : AObj}, i ≠ h.next → (newBlock h oo).2.t.get i = some o → h.t.get i = some o := by
    intro i o hne hi
    obtain ⟨t, n⟩ := h
    simpa [newBlock, T.get_set, hne] using hi
  refine ⟨⟨?_, ?_, ?_, ?_, ?_, ?_, k.base, k.grown, k.os, k.tape, k.output⟩, ⟨fun id hid => Rho.put_ne _ _ (by intro he; subst he; omega), by rw [e3]; omega⟩⟩
  · intro i o q hi hq
    by_cases he : i = h.next
    · subst he
      rw [Rho.put_self] at hq
      injection hq with hq
      subst hq
      rw [e2] at hi
      injection hi with hi
      subst hi
      exact hO
    · rw [Rho.put_ne _ _ he] at hq
      exact (k1.obj i o q hi hq).mono le rfl
  · intro i j o o' q q' hi hj ho ho' hq hq' hbb
    by_cases he : i = h.next
    · by_cases he' : j = h.next
      · rw [he, he']
      · subst he
        rw [Rho.put_self] at hq
        rw [Rho.put_ne _ _ he'] at hq'
        injection hq with hq
        subst hq
        exact absurd hbb.symm (hfree j o' q' (old he' hj) ho' hq')
    · by_cases he' : j = h.next
      · subst he'
        rw [Rho.put_self] at hq'
        rw [Rho.put_ne _ _ he] at hq
        injection hq' with hq'
        subst hq'
        exact absurd hbb (hfree i o q (old he hi) ho hq)
      · rw [Rho.put_ne _ _ he] at hq
        rw [Rho.put_ne _ _ he'] at hq'
        exact k1.inj i j o o' q q' hi hj ho ho' hq hq' hbb
  · intro i hi
    have hne : i ≠ h.next := by intro he; subst he; omega
    rw [Rho.put_ne _ _ hne]
    exact k1.fresh i hi
  · intro i q hq
    by_cases he : i = h.next
    · subst he
      rw [Rho.put_self] at hq
      injection hq with hq
      subst hq
      exact hb
    · rw [Rho.put_ne _ _ he] at hq
      exact k.bound i q hq
  · intro i o q hi hw hq
    by_cases he : i = h.next
    · subst he
      rw [Rho.put_self] at hq
      injection hq with hq
      subst hq
      exact hown
    · rw [Rho.put_ne _ _ he] at hq
      exact k1.own i o q hi hw hq
  · intro p hp
    obtain ⟨q, h1, h2, h3⟩ := k.glob p hp
    exact ⟨q, le _ _ h1, h2, h3⟩

theorem Inv.moved (k : Inv P K W0 ρ h w) {id : Pos} {oo oo' : AObj} {r r' : Ref} (hg : h.t.get id = some oo) (hr : ρ id = some r) (hw : oo.writes = true) {w' : World}
    (hsame : ∀ B, B ≠ r.blk → w'.heap[B]? = w.heap[B]?) (hsize : w'.heap.size = w.heap.size) (hos : w'.os = w.os) (htape : w'.tape = w.tape) (hout : w'.output = w.output)
    (hlive : oo.live = true) (hb : r'.blk = r.blk) (hO : ORel K (ρ.put h.next r') r' w' oo') :
    Inv P K W0 (ρ.put h.next r') (newBlock (setObj h id .dead) oo').2 w' ∧ Fr ρ h (ρ.put h.next r') (newBlock (setObj h id .dead) oo').2 := by
  obtain ⟨k1, f1⟩ := k.wrote (oo' := .dead) hg hr hw hsame hsize hos htape hout hlive trivial
  have hn : (setObj h id .dead).next = h.next := setObj_next _ _ _
  have hfree : ∀ i o q, (setObj h id .dead).t.get i = some o → o.live = true → ρ i = some q → q.blk ≠ r'.blk := by
    intro i o q hi ho hq hbb
    rw [setObj_t, T.get_set] at hi
    split at hi
    · injection hi with hi
      subst hi
      simp [AObj.live] at ho
    · rename_i hne
      rw [hb] at hbb
      exact hne (k.inj i id o oo q r hi hg ho hlive hq hr hbb)
  rw [← hn] at hO
  obtain ⟨k2, f2⟩ := k1.placed (oo := oo') (r := r') hfree (by rw [hb, hsize]; exact k.bound _ _ hr) (by rw [hb]; exact k.own _ _ _ hg hw hr) hO
  rw [hn] at k2 f2
  exact ⟨k2, f1.trans f2⟩

end
end
end Go.Absm
