/- What the building of diagrams computes. -/


import Derived.Test.YthgleoodmgophaaC1
namespace Go.Lead
open Go
set_option linter.unusedSimpArgs false
set_option linter.unusedVariables false

/-- A table's cells. -/
def tabCells (n : Nat) (f : Nat → Bool) : List Value := (List.range (2 ^ n)).map fun i => Value.int .u8 (if f i then 1 else 0)
def tabBytes (n : Nat) (f : Nat → Bool) : List UInt8 := (List.range (2 ^ n)).map fun i => if f i then 1 else 0
theorem byteCells_tab (n : Nat) (f : Nat → Bool) : byteCells (tabBytes n f) = tabCells n f := by
  unfold byteCells tabBytes tabCells
  rw [List.map_map]
  apply List.map_congr_left
  intro i _
  simp only [Function.comp]
  cases f i <;> rfl
def TabS (h : Hp) (t : Sl) (n : Nat) (f : Nat → Bool) : Prop := SlC h t 1 (tabCells n f)
theorem TabS.mono {h h' : Hp} {t : Sl} {n : Nat} {f : Nat → Bool} (l : h.le h') (e : TabS h t n f) : TabS h' t n f := SlC.mono l e
theorem TabS.len {h : Hp} {t : Sl} {n : Nat} {f : Nat → Bool} (e : TabS h t n f) : t.n = 2 ^ n := by have := e.2.1; simp [tabCells] at this; omega
theorem TabS.at {h : Hp} {t : Sl} {n : Nat} {f : Nat → Bool} (e : TabS h t n f) {i : Nat} (hi : i < 2 ^ n) :
    ∃ b o, t.a = some (Addr.mk b o none) ∧ Hp.cell h b (o + i) = some (.int .u8 (if f i then 1 else 0)) := by
  have hl := e.len
  obtain ⟨b, o, ha, hc⟩ := SlC.get e (by omega)
  exact ⟨b, o, ha, hc i _ (by simp [tabCells, hi])⟩
theorem TabS.all {h : Hp} {t : Sl} {n : Nat} {f : Nat → Bool} (e : TabS h t n f) : slCells h t.a t.n (byteCells (tabBytes n f)) := by
  rw [byteCells_tab]
  exact ⟨by rw [e.2.1, Nat.mul_one], e.2.2⟩
def ndCells (ns : List Nd) : List Value := ns.flatMap fun n => [I n.v, I n.lo, I n.hi]
def ndKey (n : Nd) : Value := .agg #[I n.v, I n.lo, I n.hi]
/-- The builder's memory. -/
structure BI (h : Hp) (B rs rn : Nat) (vars : Nat) (s : Sl) (ns : List Nd) (es : List (ByteArray × Nat)) : Prop where
  row : h B = some (.inl ⟨[I vars, s.v, I 0, .map (some rs), .map (some rn)], 5, false⟩)
  buf : Buf h s 3 (ndCells ns)
  seen : h rs = some (.inr (es.map fun e => (.string e.1, I e.2)))
  nodes : h rn = some (.inr (ns.zipIdx.map fun e => (ndKey e.1, I (e.2 + 2 : Nat))))
  far : rs ≠ rn
  own : ∀ a, s.a = some a → a.block ≠ B
  true : ∀ e ∈ es, ∃ n f low, low + n = vars ∧ e.1 = ⟨(tabBytes n f).toArray⟩ ∧ mkD n f low ns = (e.2, ns)

theorem BI.mono {h h' : Hp} {B rs rn vars : Nat} {s : Sl} {ns : List Nd} {es : List (ByteArray × Nat)} (l : h.le h') (e : BI h B rs rn vars s ns es) : BI h' B rs rn vars s ns es :=
  ⟨l _ _ e.row, e.buf.mono l, l _ _ e.seen, l _ _ e.nodes, e.far, e.own, e.true⟩
/-- A table that is written. -/
theorem BI.put {h : Hp} {B rs rn vars : Nat} {s : Sl} {ns : List Nd} {es : List (ByteArray × Nat)} (e : BI h B rs rn vars s ns es) {n low : Nat} {f : Nat → Bool} (hlow : low + n = vars)
    {a : Nat} (ha : mkD n f low ns = (a, ns)) : ∃ (es2 : List (ByteArray × Nat)) (res : Option (Nat × Value)), mlook (Instr.sameNow .string (.string ⟨(tabBytes n f).toArray⟩)) (es.map fun e => (.string e.1, I e.2)) 0 = some res ∧
      mput (es.map fun e => (.string e.1, I e.2)) (.string ⟨(tabBytes n f).toArray⟩) (I a) res = es2.map (fun e : ByteArray × Nat => (Value.string e.1, I e.2)) ∧ ∀ x ∈ es2, ∃ n f low, low + n = vars ∧ x.1 = ⟨(tabBytes n f).toArray⟩ ∧ mkD n f low ns = (x.2, ns) := by
  rcases mlook_cases (Instr.sameNow .string (.string ⟨(tabBytes n f).toArray⟩)) (fun e : ByteArray × Nat => .string e.1) (fun e => I e.2) (fun e => (⟨(tabBytes n f).toArray⟩ : ByteArray) == e.1) es 0 (fun _ _ => rfl) with ⟨hno, hm⟩ | ⟨j, hj, hyes, _, hm⟩
  · refine ⟨es ++ [(⟨(tabBytes n f).toArray⟩, a)], _, hm, by simp [mput], ?_⟩
    intro x hx
    rcases List.mem_append.1 hx with hx | hx
    · exact e.true x hx
    · simp only [List.mem_singleton] at hx; subst hx; exact ⟨n, f, low, hlow, rfl, ha⟩
  · refine ⟨es.set j (⟨(tabBytes n f).toArray⟩, a), _, hm, by simp [mput, List.map_set], ?_⟩
    intro x hx
    rcases List.mem_or_eq_of_mem_set hx with hx | hx
    · exact e.true x hx
    · subst hx; exact ⟨n, f, low, hlow, rfl, ha⟩
theorem ndCells_len (ns : List Nd) : (ndCells ns).length = ns.length * 3 := by
  induction ns with
  | nil => rfl
  | cons n ns ih => simp only [ndCells, List.flatMap_cons, List.length_append, List.length_cons, List.length_nil] at ih ⊢; omega

end Go.Lead
