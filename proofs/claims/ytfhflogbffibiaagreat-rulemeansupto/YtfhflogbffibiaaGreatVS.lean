/-
  Contracts of calls; pure calls; one operation carried out.
-/
import Derived.Test.YtfhflogbffibiaaGreatVR
namespace Go.Proofs.YtfhflogbffibiaaGreat
open Go
set_option linter.unusedSimpArgs false
set_option linter.unusedVariables false

def ArgsRep (Γ : RO) (args : List AV) (vs : List Value) : Prop := vs.length = args.length ∧ ∀ (i : Nat) x v, args[i]? = some x → vs[i]? = some v → Rep Γ x v

/-- THE CONTRACT OF A CALL: with these arguments and named objects it returns, what it hands back and leaves meets R; nothing else that anybody stands on has changed. -/
def Sp (P : Program) (f : FuncId) (args : List AV) (H : Heap) (R : AV → Heap → Prop) : Prop :=
  ∀ (Γ : RO) (w : World) (F : Nat → Prop) (vs : List Value), Base Γ w → (∀ b, F b → b < w.heap.size) → HeapRep Γ w F H → ArgsRep Γ args vs →
    Calls P f vs.toArray w fun e w' => ∃ v r H' Γ', e = .returned v ∧ R r H' ∧ Rep Γ' r v ∧ Base Γ' w' ∧ HeapRep Γ' w' F H' ∧ Ext F Γ w Γ' w'

theorem Sp.mono {P : Program} {f : FuncId} {args : List AV} {H : Heap} {R R' : AV → Heap → Prop} (h : Sp P f args H R) (hr : ∀ r H', R r H' → R' r H') : Sp P f args H R' :=
  fun Γ w F vs h1 h2 h3 h4 => (h Γ w F vs h1 h2 h3 h4).mono fun _ _ ⟨v, r, H', Γ', e1, e2, e3⟩ => ⟨v, r, H', Γ', e1, hr _ _ e2, e3⟩

/-- It comes to just this. -/
def SpV (P : Program) (f : FuncId) (args : List AV) (H : Heap) (v : AV) (H1 : Heap) : Prop := Sp P f args H fun r H' => r = v ∧ H' = H1

def noH : Heap := fun _ => none

def depth : Nat := 24

/-- A PURE CALL: run in the empty heap, frozen behind it. -/
theorem pure_sound {P : Program} {f : FuncId} {args : List AV} {v0 v : AV} {H0 : Heap} (h : SpV P f args noH v0 H0) (ha : args.all (AV.plainN depth) = true) (hv : freeze H0 depth v0 = some v) (hp : v.plainN depth = true) (H : Heap) : SpV P f args H v H := by
  intro Γ w F vs hb hF hH hA
  let Γ1 : RO := { g := Γ.g, nu := fun _ => none }
  let G : Nat → Prop := fun b => F b ∨ Held Γ H b
  have hG : ∀ b, G b → b < w.heap.size := fun b hb' => by
    rcases hb' with hb' | ⟨nm, o, c, h1, h2, h3⟩
    · exact hF b hb'
    · obtain ⟨b', c', e1, _, e3, _⟩ := hH.obj nm o h1 h2
      rw [h3] at e1; cases e1; exact e3
  have hH1 : HeapRep Γ1 w G noH := ⟨fun nm o h => (by cases h), fun nm nm' o o' b c c' h => (by cases h), fun nm _ => rfl⟩
  refine (h Γ1 w G vs hb hG hH1 ⟨hA.1, fun i x u hx hu => plain_rep (Γ := Γ) (Γ' := Γ1) (fun _ _ _ h => h) depth (all_get ha hx) (hA.2 i x u hx hu)⟩).mono ?_
  rintro e w' ⟨u, r, H', Γ', rfl, ⟨rfl, rfl⟩, hr, hb', hH', hE⟩
  have hGn : ∀ b, G b → ¬ Held Γ' H' b := fun b hb' ⟨nm, o, c, h1, h2, h3⟩ => by
    obtain ⟨b', c', e1, e2, _⟩ := hH'.obj nm o h1 h2
    rw [h3] at e1; cases e1; exact e2 hb'
  let Γ2 : RO := { g := fun b o => if Classical.propDecidable (Held Γ' H' b) |>.decide then w'.cell? ⟨b, o, none⟩ else Γ'.g b o, nu := Γ.nu }
  have g1 : ∀ b, Held Γ' H' b → ∀ o, Γ2.g b o = w'.cell? ⟨b, o, none⟩ := fun b hb o => by
    show (if _ then _ else _) = _
    rw [if_pos]; simpa using hb
  have g2 : ∀ b, ¬ Held Γ' H' b → ∀ o, Γ2.g b o = Γ'.g b o := fun b hb o => by
    show (if _ then _ else _) = _
    rw [if_neg]; simpa using hb
  have g3 : ∀ b o v, Γ'.g b o = some v → Γ2.g b o = some v := fun b o v hv => by
    by_cases hh : Held Γ' H' b
    · rw [g1 b hh]; exact hb' b o v hv
    · rw [g2 b hh]; exact hv
  have hb2 : Base Γ2 w' := fun b o v hv => by
    by_cases hh : Held Γ' H' b
    · rw [g1 b hh] at hv; exact hv
    · rw [g2 b hh] at hv; exact hb' b o v hv
  have hE2 : Ext G Γ w Γ2 w' := ⟨hE.keep, fun b hb o => by rw [g2 b (hGn b hb)]; exact hE.keepG b hb o, ⟨fun b o v hv => g3 b o v (hE.mono.g b o v hv), fun nm p hp => hp⟩, hE.size, hE.tape, hE.os, hE.out⟩
  have hrep : Rep Γ2 v u := freeze_rep hb' (fun b hb => Nat.lt_of_lt_of_le (hG b hb) hE.size) hH' g3 (fun nm b c o v h0 h1 hn hc => by
    have : Held Γ' H' b := by
      cases ho : H' nm with
      | none => exact absurd ho h0
      | some q =>
        refine ⟨nm, q, c, ho, ?_, hn⟩
        cases q with
        | dead => exact absurd ho h1
        | _ => rfl
    rw [g1 b this]; exact hc) depth hv hr
  exact ⟨u, v, H, Γ2, rfl, ⟨rfl, rfl⟩, hrep, hb2, hH.ext hE2 (fun _ h => h), hE2.weak fun _ h => .inl h⟩

def guardOk : AV → Prop
  | .bool _ => True
  | .raw (.tuple _) => True
  | _ => False

instance : DecidablePred guardOk := fun a => by
  unfold guardOk; split <;> infer_instance

def guardB (p : Bool) : AV → Bool
  | .bool b => b == p
  | _ => false

def evs (fr : Nat → AV) (args : List LA) : List AV := args.map fun x => x.ev fr

def entersB (P : Program) (f : FuncId) : Bool := match P.funcs[f]? with
  | some fn => fn.name != "runtime.NumGoroutine" && fn.body.isSome
  | none => false

def fitG (ops : Array Oper) (g : Option (Nat × Bool)) (g' : Option (Nat × Bool)) : Bool :=
  match g, g' with
  | none, none => true
  | some (j, p), some (t, q) => p == q && (match ops[j]? with | some o => o.dst == some t | none => false)
  | _, _ => false

/-- Does an operation of the loaded program fit, with its slot and its guard? -/
def fitR (P : Program) (n : Nat) (ops : Array Oper) (o : Oper) (r : LOpr) : Bool :=
  o.dst == r.d && (match r.d with | some d => decide (d < n) | none => true) && fitG ops o.guard r.g && (match r.g with | some (t, _) => decide (t < n) | none => true) && fitOp P o.op r.op

/-- ONE STEP: from s to s'. -/
inductive Step (P : Program) (nm : Nat) (r : LOpr) (s : St) : St → Prop where
  | skip (t p) : r.g = some (t, p) → guardOk (s.fr t) → guardB p (s.fr t) = false → Step P nm r s { s with fr := updF s.fr r.d undefAV }
  | run (av ws) : (∀ t p, r.g = some (t, p) → guardOk (s.fr t) ∧ guardB p (s.fr t) = true) → r.op.run nm s.fr s.H = some (av, ws) → Step P nm r s (s.app r.d av ws)
  | call (f args v H1) : (∀ t p, r.g = some (t, p) → guardOk (s.fr t) ∧ guardB p (s.fr t) = true) → (r.op = .call f args ∨ r.op = .pcall f args ∨ r.op = .kcall f args) → SpV P f (evs s.fr args) s.H v H1 → Step P nm r s { fr := updF s.fr r.d v, H := H1 }
  | callv (x args f caps v H1) : (∀ t p, r.g = some (t, p) → guardOk (s.fr t) ∧ guardB p (s.fr t) = true) → r.op = .callv x args → x.ev s.fr = .fn f caps → entersB P f = true → SpV P f (evs s.fr args ++ caps) s.H v H1 → Step P nm r s { fr := updF s.fr r.d v, H := H1 }

section
variable {P : Program} {n : Nat} {F : Nat → Prop} {Γ0 : RO} {w0 : World} {Γ : RO} {s : St} {a : Act} {w : World}

/-- Behind an operation: the frame and the world are what s' says. -/
def Next' (n : Nat) (F : Nat → Prop) (Γ0 : RO) (w0 : World) (s' : St) (next : Act → World → Prop) : Prop := ∀ Γ a w, Conc n F Γ0 w0 Γ s' a w → next a w

/-- An operation comes up: carried out, or passed over. -/
def Comes' (P : Program) (ops : Array Oper) (o : Oper) (a : Act) (w : World) (next : Act → World → Prop) (Q : Exit → Act → World → Prop) : Prop :=
  if Region.wanted o (yielded ops a.tmps) then o.wp P a w next Q else next (a.put o.dst undef) w

theorem wanted_none {o : Oper} {ops : Array Oper} {tmps : Array Value} (h : o.guard = none) : Region.wanted o (yielded ops tmps) = true := by simp [Region.wanted, h]

theorem wanted_some {o : Oper} {ops : Array Oper} {j t : Nat} {p : Bool} {oj : Oper} (hg : o.guard = some (j, p)) (hj : ops[j]? = some oj) (ht : oj.dst = some t) (htn : t < n) (hc : Conc n F Γ0 w0 Γ s a w) (hok : guardOk (s.fr t)) :
    Region.wanted o (yielded ops a.tmps) = guardB p (s.fr t) := by
  have hlt : t < a.tmps.size := by rw [hc.size]; exact htn
  have hs := hc.slots t
  have hget : a.tmps[t]? = some (a.tmps.getD t undef) := by simp [Array.getD, hlt]
  unfold guardOk at hok
  split at hok
  · rename_i b hb
    rw [hb] at hs ⊢
    have hv := Rep.bool_inv hs
    rw [hv] at hget
    simp [Region.wanted, hg, yielded, hj, ht, hget, guardB]
  · rename_i vs hb
    rw [hb] at hs ⊢
    have hv := Rep.raw_inv hs
    rw [hv] at hget
    simp [Region.wanted, hg, yielded, hj, ht, hget, guardB]
  · exact hok.elim

theorem args_rep (hc : Conc n F Γ0 w0 Γ s a w) {xs : List Operand} {ls : List LA} (hf : fitAs xs ls = true) : ArgsRep Γ (evs s.fr ls) (xs.map a.eval) := by
  obtain ⟨h1, h2⟩ := fitAs_rep hc hf
  refine ⟨by simp [evs, h1], fun i x v hx hv => ?_⟩
  simp only [evs, List.getElem?_map, Option.map_eq_some_iff] at hx hv
  obtain ⟨l, hl, rfl⟩ := hx
  obtain ⟨y, hy, rfl⟩ := hv
  exact ev_rep hc (h2 i y l hy hl)

theorem fitG_none {ops : Array Oper} {g : Option (Nat × Bool)} (h : fitG ops g none = true) : g = none := by
  cases g with
  | none => rfl
  | some _ => cases h

theorem fitG_some {ops : Array Oper} {g : Option (Nat × Bool)} {t : Nat} {p : Bool} (h : fitG ops g (some (t, p)) = true) : ∃ j oj, g = some (j, p) ∧ ops[j]? = some oj ∧ oj.dst = some t := by
  cases g with
  | none => cases h
  | some q =>
    obtain ⟨j, p'⟩ := q
    simp only [fitG, Bool.and_eq_true, beq_iff_eq] at h
    obtain ⟨rfl, h⟩ := h
    split at h
    · rename_i oj hj; exact ⟨j, oj, rfl, hj, by simpa using h⟩
    · cases h

theorem fitR_parts {ops : Array Oper} {o : Oper} {r : LOpr} (h : fitR P n ops o r = true) : o.dst = r.d ∧ (∀ x, r.d = some x → x < n) ∧ fitG ops o.guard r.g = true ∧ (∀ t p, r.g = some (t, p) → t < n) ∧ fitOp P o.op r.op = true := by
  simp only [fitR, Bool.and_eq_true, beq_iff_eq] at h
  obtain ⟨⟨⟨⟨h1, h2⟩, h3⟩, h5⟩, h4⟩ := h
  refine ⟨h1, fun x hx => ?_, h3, fun t p hg => ?_, h4⟩
  · rw [hx] at h2; simpa using h2
  · rw [hg] at h5; simpa using h5

theorem call_sound (hc : Conc n F Γ0 w0 Γ s a w) {f : FuncId} {args : List AV} {vs : List Value} {v : AV} {H1 : Heap} (hsp : SpV P f args s.H v H1) (ha : ArgsRep Γ args vs) {d : Option Nat} (hd : ∀ x, d = some x → x < n) {next : Act → World → Prop} {Q : Exit → Act → World → Prop}
    (hn : Next' n F Γ0 w0 { fr := updF s.fr d v, H := H1 } next) :
    Calls P f vs.toArray w fun
      | .returned v, w'' => next (a.put d v) w''
      | .panicked chain, w'' => Q (.panic chain) a w''
      | .outgrown, _ => LetsOut Q := by
  refine (hsp Γ w F vs hc.base hc.fb hc.heap ha).mono ?_
  rintro e w' ⟨u, r, H', Γ', rfl, ⟨rfl, rfl⟩, hr, hb, hH, hE⟩
  have hc' : Conc n F Γ0 w0 Γ' { s with H := H' } a w' :=
    ⟨hc.defers, hc.size, hb, hc.ext.trans hE, fun b h => Nat.lt_of_lt_of_le (hc.fb b h) hE.size, fun t => (hc.slots t).mono hE.mono, hH⟩
  exact hn Γ' _ _ (hc'.put hd hr)

theorem does_wp {o : Oper} {s' : St} (h : Does P n F Γ0 w0 s' a w o) {next : Act → World → Prop} {Q : Exit → Act → World → Prop} (hn : Next' n F Γ0 w0 s' next) : o.wp P a w next Q := by
  obtain ⟨v, w', Γ', hr, hc'⟩ := h
  unfold Oper.wp
  rcases hr with hr | ⟨hr, rfl⟩
  · rw [hr]; exact hn Γ' _ _ hc'
  · rw [hr]; exact hn Γ' _ _ hc'

theorem fit_pcall {op : Op} {f : FuncId} {args : List LA} : fitOp P op (.pcall f args) = fitOp P op (.call f args) := by
  cases op <;> try rfl
  rename_i c
  obtain ⟨callee, args', ts⟩ := c
  cases callee <;> try rfl
  rename_i x
  cases x <;> rfl

theorem fit_kcall {op : Op} {f : FuncId} {args : List LA} : fitOp P op (.kcall f args) = fitOp P op (.call f args) := by
  cases op <;> try rfl
  rename_i c
  obtain ⟨callee, args', ts⟩ := c
  cases callee <;> try rfl
  rename_i x
  cases x <;> rfl

theorem call_enter {o : Oper} {f : FuncId} {args : List LA} (hf : fitOp P o.op (.call f args) = true ∨ fitOp P o.op (.pcall f args) = true ∨ fitOp P o.op (.kcall f args) = true) : ∃ xs : List Operand, fitAs xs args = true ∧ ∀ (a : Act) (w : World), (execOp a.eval o).run P w = .ok (.enter f (xs.map a.eval).toArray) w := by
  have hf : fitOp P o.op (.call f args) = true := by
    rcases hf with hf | hf | hf
    · exact hf
    · rw [← fit_pcall]; exact hf
    · rw [← fit_kcall]; exact hf
  generalize hop : o.op = op at hf
  cases op <;> try (simp only [fitOp, Bool.false_eq_true] at hf; done)
  rename_i c
  obtain ⟨callee, args', ts⟩ := c
  cases callee <;> try (simp only [fitOp, Bool.false_eq_true] at hf; done)
  rename_i x
  cases x <;> try (simp only [fitOp, Bool.false_eq_true] at hf; done)
  rename_i f'
  simp only [fitOp, Bool.and_eq_true, beq_iff_eq] at hf
  obtain ⟨⟨rfl, h1⟩, h2⟩ := hf
  refine ⟨args'.toList, h1, fun a w => ?_⟩
  split at h2
  · rename_i fn hfn
    simp only [Bool.and_eq_true, bne_iff_ne, ne_eq] at h2
    have hb : fn.body ≠ none := fun e => by rw [e] at h2; simp at h2
    have hm : args'.map a.eval = (args'.toList.map a.eval).toArray := by apply Array.ext'; simp
    rw [← hm]
    simp [execOp, hop, resolve, Deferred.ofValue, Act.eval, invoke, callFunc, hfn, h2.1, hb]
  · cases h2

theorem callv_goes (hc : Conc n F Γ0 w0 Γ s a w) {o : Oper} {x : LA} {args : List LA} {d : Option Nat} (h1 : o.dst = d) (hd : ∀ x, d = some x → x < n) (h4 : fitOp P o.op (.callv x args) = true) {f : FuncId} {caps : List AV} (hx : x.ev s.fr = .fn f caps)
    (hfn : entersB P f = true) {v : AV} {H1 : Heap} (hsp : SpV P f (evs s.fr args ++ caps) s.H v H1)
    {next : Act → World → Prop} {Q : Exit → Act → World → Prop} (hn : Next' n F Γ0 w0 { fr := updF s.fr d v, H := H1 } next) : o.wp P a w next Q := by
  generalize hop : o.op = op at h4
  cases op <;> try (simp only [fitOp, Bool.false_eq_true] at h4; done)
  rename_i c
  obtain ⟨callee, args', ts⟩ := c
  cases callee <;> try (simp only [fitOp, Bool.false_eq_true] at h4; done)
  rename_i y
  cases y <;> try (simp only [fitOp, Bool.false_eq_true] at h4; done)
  rename_i t
  simp only [fitOp, Bool.and_eq_true] at h4
  have hrep := ev_rep hc h4.1
  rw [hx] at hrep
  obtain ⟨vs, hv, k5, k6⟩ := hrep.fn_inv
  have hfn' : ∃ fn, P.funcs[f]? = some fn ∧ fn.name ≠ "runtime.NumGoroutine" ∧ fn.body.isNone = false := by
    unfold entersB at hfn
    split at hfn
    · rename_i fn hf
      simp only [Bool.and_eq_true, bne_iff_ne, ne_eq] at hfn
      exact ⟨fn, hf, hfn.1, by cases hq : fn.body <;> simp [hq] at hfn ⊢⟩
    · cases hfn
  obtain ⟨fn, k1, k2, k3⟩ := hfn'
  unfold Oper.wp
  have hrun : (execOp a.eval o).run P w = .ok (.enter f ((args'.toList.map a.eval) ++ vs).toArray) w := by
    simp only [execOp, hop, resolve, hv, Deferred.ofValue, Sem.run_bind, Sem.run_pure, Result.andThen_ok, invoke, callFunc, run_program, k1]
    simp [k2, k3]
  rw [hrun, Oper.upon_enter, h1]
  refine call_sound hc hsp ?_ hd hn
  obtain ⟨e1, e2⟩ := args_rep hc h4.2
  refine ⟨by simp [e1, k5], fun i z u hz hu => ?_⟩
  rw [List.getElem?_append] at hz hu
  rw [e1] at hu
  split at hz
  · rename_i hlt; rw [if_pos hlt] at hu; exact e2 i z u hz hu
  · rename_i hlt; rw [if_neg hlt] at hu; exact k6 _ z u hz hu

/-- ONE OPERATION of the loaded program goes where the abstract step goes. -/
theorem step_goes (hc : Conc n F Γ0 w0 Γ s a w) {ops : Array Oper} {o : Oper} {r : LOpr} {nm : Nat} (hfit : fitR P n ops o r = true) {s' : St} (h : Step P nm r s s') {next : Act → World → Prop} {Q : Exit → Act → World → Prop}
    (hn : Next' n F Γ0 w0 s' next) : Comes' P ops o a w next Q := by
  obtain ⟨h1, h2, h3, h5, h4⟩ := fitR_parts hfit
  have want : (∀ t p, r.g = some (t, p) → guardOk (s.fr t) ∧ guardB p (s.fr t) = true) → Region.wanted o (yielded ops a.tmps) = true := fun hg => by
    cases hrg : r.g with
    | none => exact wanted_none (fitG_none (by rw [hrg] at h3; exact h3))
    | some q =>
      obtain ⟨t, p⟩ := q
      rw [hrg] at h3
      obtain ⟨j, oj, q1, q2, q3⟩ := fitG_some h3
      rw [wanted_some q1 q2 q3 (h5 t p hrg) hc (hg t p hrg).1]
      exact (hg t p hrg).2
  unfold Comes'
  cases h with
  | skip t p hg hok hb =>
    rw [hg] at h3
    obtain ⟨j, oj, q1, q2, q3⟩ := fitG_some h3
    rw [wanted_some q1 q2 q3 (h5 t p hg) hc hok, hb, if_neg (by simp)]
    refine hn Γ _ _ ?_
    rw [h1]
    exact hc.put h2 (.raw undef)
  | run av ws hg hrun =>
    rw [if_pos (want hg)]
    have := does_of_fit hc (o := o) (fun x hx => h2 x (by rw [← h1]; exact hx)) h4 hrun
    rw [h1] at this
    exact does_wp this hn
  | call f args v H1 hg hop hsp =>
    rw [if_pos (want hg)]
    obtain ⟨xs, g1, g2⟩ := call_enter (hop.elim (fun e => .inl (e ▸ h4)) (fun e => .inr (e.elim (fun e => .inl (e ▸ h4)) (fun e => .inr (e ▸ h4)))))
    unfold Oper.wp
    rw [g2 a w, Oper.upon_enter, h1]
    exact call_sound hc hsp (args_rep hc g1) h2 hn
  | callv x args f caps v H1 hg hop hx hfn hsp =>
    rw [if_pos (want hg)]
    rw [hop] at h4
    exact callv_goes hc h1 h2 h4 hx hfn hsp hn
end

end Go.Proofs.YtfhflogbffibiaaGreat
