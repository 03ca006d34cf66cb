/-
  The operations of the loaded program against the abstract ones; what lies in memory; loads.
-/
import Derived.Test.YtfhflogbffibiaaGreatVB
namespace Go.Proofs.YtfhflogbffibiaaGreat
open Go
set_option linter.unusedSimpArgs false
set_option linter.unusedVariables false

def sizeIs (P : Program) (t : TypeId) (n : Nat) : Bool := match P.info? t with
  | some i => i.size == n
  | none => false
def rowIs (P : Program) (t : TypeId) (ag : Bool) : Bool := match P.underlying t with
  | some d => d.isRow == ag
  | none => false
def elemIs (P : Program) (t : TypeId) (E : Nat) : Bool := match P.underlying t with
  | some (.slice e) => sizeIs P e E
  | _ => false

def constOk : Value → AV → Bool
  | .int k n, .int k' m => decide (k = k') && decide (n = m)
  | .bool b, .bool c => b == c
  | .string s, .str t => decide (s = t)
  | .slice none 0 0, .ro _ [] _ => true
  | .pointer none, .raw (.pointer none) => true
  | _, _ => false

theorem constOk_rep {v : Value} {x : AV} (h : constOk v x = true) (Γ : RO) : Rep Γ x v ∧ v.oneCell' = true := by
  unfold constOk at h
  split at h
  · simp at h; obtain ⟨rfl, rfl⟩ := h; exact ⟨.int _ _, rfl⟩
  · simp at h; subst h; exact ⟨.bool _, rfl⟩
  · simp at h; subst h; exact ⟨.str _, rfl⟩
  · exact ⟨.ro0 _ _ _ _ (fun _ => rfl), rfl⟩
  · exact ⟨.raw _, rfl⟩
  · cases h

def constsOk : List Value → List AV → Bool
  | [], [] => true
  | v :: vs, x :: xs => constOk v x && constsOk vs xs
  | _, _ => false

theorem constsOk_rep : ∀ {vs : List Value} {xs : List AV}, constsOk vs xs = true → ∀ (Γ : RO), CellsRep Γ xs vs
  | [], [], _, _ => CellsRep.nil
  | v :: vs, x :: xs, h, Γ => by
    simp only [constsOk, Bool.and_eq_true] at h
    have h1 := constOk_rep h.1 Γ
    simpa using (CellsRep.one h1.1 h1.2).append (constsOk_rep h.2 Γ)
  | [], _ :: _, h, _ => by cases h
  | _ :: _, [], h, _ => by cases h

def fitA (x : Operand) (l : LA) : Bool :=
  match x, l with
  | .tmp t, .t t' => t == t'
  | .const v, .k a => constOk v a
  | .func f, .k (.fn f' []) => f == f'
  | _, _ => false

def fitAs : List Operand → List LA → Bool
  | [], [] => true
  | x :: xs, l :: ls => fitA x l && fitAs xs ls
  | _, _ => false

def fitO (x : Option Operand) (l : Option LA) : Bool :=
  match x, l with
  | none, none => true
  | some x, some l => fitA x l
  | _, _ => false

section
variable {n : Nat} {F : Nat → Prop} {Γ0 : RO} {w0 : World} {Γ : RO} {s : St} {a : Act} {w : World}

theorem ev_rep (hc : Conc n F Γ0 w0 Γ s a w) {x : Operand} {l : LA} (hf : fitA x l = true) : Rep Γ (l.ev s.fr) (a.eval x) := by
  unfold fitA at hf
  split at hf
  · simp at hf; subst hf; exact hc.slots _
  · exact (constOk_rep hf Γ).1
  · simp only [beq_iff_eq] at hf; subst hf; exact .fn _ [] [] rfl (fun i c v h => by simp at h)
  · cases hf

theorem Rep.int_inv {k : IntKind} {m : Int} {v : Value} (h : Rep Γ (.int k m) v) : v = .int k m := by cases h; rfl
theorem Rep.bool_inv {b : Bool} {v : Value} (h : Rep Γ (.bool b) v) : v = .bool b := by cases h; rfl
theorem Rep.str_inv {b : ByteArray} {v : Value} (h : Rep Γ (.str b) v) : v = .string b := by cases h; rfl
theorem Rep.raw_inv {u v : Value} (h : Rep Γ (.raw u) v) : v = u := by cases h; rfl
theorem Rep.tup_inv {cs : List AV} {v : Value} (h : Rep Γ (.tup cs) v) : ∃ vs : List Value, v = .tuple vs.toArray ∧ vs.length = cs.length ∧ ∀ (i : Nat) c u, cs[i]? = some c → vs[i]? = some u → Rep Γ c u := by
  cases h with
  | tup cs vs h1 h2 => exact ⟨vs, rfl, h1, h2⟩


/-- The cells of a stored value. -/
theorem cells_rep {x : AV} {v : Value} {vs : List AV} (h : Rep Γ x v) (hv : x.cells = some vs) : CellsRep Γ vs v.cells.toList := by
  cases h <;> simp [AV.cells] at hv
  case agg cs us h1 h2 h3 => subst hv; exact ⟨by simpa [Value.cells] using h1, by simpa [Value.cells] using h2, by simpa [Value.cells] using h3⟩
  case int k m => subst hv; exact CellsRep.one (.int _ _) rfl
  case bool => subst hv; exact CellsRep.one (.bool _) rfl
  case str => subst hv; exact CellsRep.one (.str _) rfl
  case raw => obtain ⟨h1, rfl⟩ := hv; cases v <;> simp [Value.oneCell'] at h1 <;> exact CellsRep.one (.raw _) rfl
  case ro E xs clip b o cap f h1 h2 h3 h4 h5 h6 => subst hv; exact CellsRep.one (.ro E xs clip b o cap f h1 h2 h3 h4 h5 h6) rfl
  case ro0 => subst hv; exact CellsRep.one (.ro0 _ _ _ _ (by assumption)) rfl
  case rp b o f h1 h2 h3 => subst hv; exact CellsRep.one (.rp _ b o f h1 h2 h3) rfl
  case np nm o b c h1 => subst hv; exact CellsRep.one (.np nm o b c h1) rfl
  case ns nm E o len cap b c h1 => subst hv; exact CellsRep.one (.ns nm E o len cap b c h1) rfl
  case gs nm E off len b c q h1 h2 h3 => subst hv; exact CellsRep.one (.gs nm E off len b c q h1 h2 h3) rfl
  case fn f cs us h1 h2 => subst hv; exact CellsRep.one (.fn f cs us h1 h2) rfl

/-- Cells that lie in memory. -/
def LiesAt (Γ : RO) (w : World) (b o : Nat) (cs : List AV) : Prop := ∀ (j : Nat) c, cs[j]? = some c → ∃ v, w.cell? ⟨b, o + j, none⟩ = some v ∧ Rep Γ c v ∧ v.oneCell' = true

theorem BlkRep.lies {b : Nat} {cs : List AV} (h : BlkRep Γ w b cs) : LiesAt Γ w b 0 cs := by
  obtain ⟨_, vs, ty, h1, h2, h3, h4⟩ := h
  intro j c hj
  have hlt : j < vs.length := by rw [h2]; exact (List.getElem?_eq_some_iff.1 hj).1
  refine ⟨vs[j], ?_, h3 j c _ hj (List.getElem?_eq_getElem hlt), h4 _ (List.getElem_mem hlt)⟩
  simp [World.cell?, h1, hlt]

theorem LiesAt.drop {b o : Nat} {cs : List AV} (h : LiesAt Γ w b o cs) (p : Nat) : LiesAt Γ w b (o + p) (cs.drop p) := fun j c hj => by
  rw [List.getElem?_drop] at hj
  rw [Nat.add_assoc]; exact h _ c hj

theorem Rep.rp_lies {cs : List AV} {v : Value} (hb : Base Γ w) (h : Rep Γ (.rp cs) v) : ∃ b o, v = .pointer (some ⟨b, o, none⟩) ∧ LiesAt Γ w b o cs := by
  cases h with
  | rp cs b o f h1 h2 h3 => exact ⟨b, o, rfl, fun j c hj => ⟨f j, hb _ _ _ (h1 j c hj), h2 j c hj, h3 j c hj⟩⟩

/-- A load. -/
theorem load_sound {P : Program} {t : TypeId} {b o p m : Nat} {ag : Bool} {cs : List AV} (hl : LiesAt Γ w b o cs) (hs : sizeIs P t m = true) (hr : rowIs P t ag = true) (hm : p + m ≤ cs.length) (h1 : ag = false → m = 1) :
    ∃ v, (Instr.loadAt t (.pointer (some ⟨b, o + p, none⟩))).run P w = .ok v w ∧ Rep Γ (rdCells cs p m ag) v := by
  unfold rowIs at hr
  split at hr
  case h_2 => cases hr
  rename_i d hu
  simp at hr
  cases ag with
  | true =>
    have hex : ∃ vs : List Value, vs.length = m ∧ ∀ (j : Nat) v, vs[j]? = some v → w.cell? ⟨b, o + p + j, none⟩ = some v ∧ (∀ c, cs[p + j]? = some c → Rep Γ c v) ∧ v.oneCell' = true := by
      clear hs h1
      induction m with
      | zero => exact ⟨[], rfl, fun j v h => by simp at h⟩
      | succ m ih =>
        obtain ⟨vs, e1, e2⟩ := ih (by omega)
        have hlt : p + m < cs.length := by omega
        obtain ⟨v, g1, g2, g3⟩ := hl (p + m) _ (List.getElem?_eq_getElem hlt)
        refine ⟨vs ++ [v], by simp [e1], fun j u hu => ?_⟩
        rw [List.getElem?_append] at hu
        split at hu
        · exact e2 j u hu
        · rename_i hge
          have : j = m := by
            rcases Nat.lt_or_ge (j - vs.length) 1 with h | h
            · omega
            · rw [List.getElem?_eq_none (by simpa using h)] at hu; cases hu
          subst this
          rw [e1] at hu; simp at hu; subst hu
          exact ⟨by rw [Nat.add_assoc]; exact g1, fun c hc' => by rw [List.getElem?_eq_getElem hlt] at hc'; simp at hc'; subst hc'; exact g2, g3⟩
    obtain ⟨vs, e1, e2⟩ := hex
    refine ⟨.agg vs.toArray, ?_, ?_⟩
    · refine run_loadAt_mid w b (o + p) t vs d (fun j v hv => (e2 j v hv).1) hu hr ?_
      unfold sizeIs at hs
      split at hs
      · rename_i i hi; simp at hs; simp [hi, hs, e1]
      · cases hs
    · simp only [rdCells, if_true]
      refine .agg _ vs (by simp [e1]; omega) (fun j c v hc' hv => ?_) (fun v hv => ?_)
      · rw [List.getElem?_take] at hc'
        split at hc'
        · rw [List.getElem?_drop] at hc'; exact (e2 j v hv).2.1 c hc'
        · cases hc'
      · obtain ⟨j, hj⟩ := List.mem_iff_getElem?.1 hv
        exact (e2 j v hj).2.2
  | false =>
    have := h1 rfl
    subst this
    have hlt : p < cs.length := by omega
    obtain ⟨v, g1, g2, _⟩ := hl p _ (List.getElem?_eq_getElem hlt)
    refine ⟨v, ?_, ?_⟩
    · have hagg : (isAgg t).run P w = .ok false w := by
        unfold isAgg
        rw [Sem.run_bind, run_underlying hu w]
        cases d <;> simp_all [TypeDesc.isRow]
      simp [Instr.loadAt, Instr.sureAddr, loadVar, Sem.run_bind, hagg, g1]
    · simp only [rdCells, Bool.false_eq_true, if_false, List.getD_eq_getElem?_getD, List.getElem?_eq_getElem hlt]; exact g2
end

end Go.Proofs.YtfhflogbffibiaaGreat
