/-
  THE MACHINE: an evaluator over abstract values; it is sound.
-/
import Derived.Test.YtfhflogbffibiaaGreatVU
import Derived.ScopeJumps
namespace Go.Proofs.YtfhflogbffibiaaGreat
open Go
set_option linter.unusedSimpArgs false
set_option linter.unusedVariables false

/-- What a call comes to: its value, the objects, the next name, was anything older written. -/
structure Out where
  v : AV
  H : Heap
  cx : Nat
  wr : Bool

abbrev CallA := Nat → List AV → Heap → Nat → Option Out

def doCall (pures : Nat → Bool) (call : CallA) (strict : Bool) (f : Nat) (args : List AV) (H : Heap) (cx : Nat) : Option Out :=
  if pures f then
    if args.all (AV.plainN depth) then
      match call f args noH 0 with
      | some o => match freeze o.H depth o.v with
        | some v => if v.plainN depth then some ⟨v, H, cx, false⟩ else none
        | none => none
      | none => none
    else if strict then none else call f args H cx
  else call f args H cx

def wrB (base : Nat) (ws : List (Nat × HO)) : Bool := ws.any fun p => Nat.blt p.1 base

def aGo (pures : Nat → Bool) (call : CallA) (strict : Bool) (base nm : Nat) (r : LOpr) (s : St) (cx : Nat) : Option (St × Nat × Bool) :=
  match r.op with
  | .call f args => match doCall pures call false f (evs s.fr args) s.H cx with
    | some o => some (⟨updF s.fr r.d o.v, o.H⟩, o.cx, o.wr)
    | none => none
  | .kcall f args => match doCall pures call false f (evs s.fr args) s.H cx with
    | some o => some (⟨updF s.fr r.d o.v, o.H⟩, o.cx, o.wr)
    | none => none
  | .pcall f args => match doCall pures call true f (evs s.fr args) s.H cx with
    | some o => if pures f then some (⟨updF s.fr r.d o.v, o.H⟩, o.cx, o.wr) else none
    | none => none
  | .callv x args => match x.ev s.fr with
    | .fn f caps => match doCall pures call false f (evs s.fr args ++ caps) s.H cx with
      | some o => some (⟨updF s.fr r.d o.v, o.H⟩, o.cx, o.wr)
      | none => none
    | _ => none
  | op => match op.run nm s.fr s.H with
    | some (v, ws) => some (s.app r.d v ws, cx, wrB base ws)
    | none => none

def aOp (pures : Nat → Bool) (call : CallA) (strict : Bool) (base nm : Nat) (r : LOpr) (s : St) (cx : Nat) : Option (St × Nat × Bool) :=
  match r.g with
  | none => aGo pures call strict base nm r s cx
  | some (t, p) => match s.fr t with
    | .bool b => if b == p then aGo pures call strict base nm r s cx else some ({ s with fr := updF s.fr r.d undefAV }, cx, false)
    | .raw (.tuple _) => some ({ s with fr := updF s.fr r.d undefAV }, cx, false)
    | _ => none

def aOps (pures : Nat → Bool) (call : CallA) (base : Nat) : Nat → List LOpr → St → Nat → Bool → Option (St × Nat × Bool)
  | _, [], s, cx, wr => some (s, cx, wr)
  | nm, r :: rs, s, cx, wr => match aOp pures call false base nm r s cx with
    | some (s', cx', wr') => aOps pures call base (nm + 1) rs s' cx' (wr || wr')
    | none => none

/-- In a region that draws: the names at hand are kept; those that are read are old; calls write nothing old. -/
def dOps (pures : Nat → Bool) (call : CallA) (base c0 : Nat) : Nat → List LOpr → St → Nat → Bool → Option (St × Nat × Bool × List (List Nat))
  | _, [], s, cx, wr => some (s, cx, wr, [])
  | i, r :: rs, s, cx, wr => match aOp pures call true base (c0 + i) r s cx with
    | some (s', cx', wr') =>
      let t := r.op.tops (c0 + i) s.fr
      if (decide (r.op.cls pures = .L) && !(t.all fun q => Nat.blt q c0)) || (decide (r.op.cls pures = .C) && wr') then none else
        match dOps pures call base c0 (i + 1) rs s' cx' (wr || wr') with
        | some (s2, cx2, wr2, ts) => some (s2, cx2, wr2, t :: ts)
        | none => none
    | none => none

inductive Ex where
  | normal
  | exit (id : Nat)
  | ret
  | goto (l : Nat)

def Ex.to : Ex → Exit
  | .normal => .normal
  | .exit id => .exit id
  | .ret => .ret
  | .goto l => .goto l

/-- The code behind a label. -/
def labelL : LCode → Nat → Option LCode
  | .label l', l => if l' = l then some .skip else none
  | .seq a b, l => match labelL a l with
    | some a' => some (.seq a' b)
    | none => labelL b l
  | _, _ => none

abbrev CRes := Option (Ex × St × Nat × Bool)

def aC (pures : Nat → Bool) (call : CallA) (base : Nat) : Nat → LCode → St → Nat → Bool → CRes
  | 0, _, _, _, _ => none
  | _ + 1, .skip, s, cx, wr => some (.normal, s, cx, wr)
  | _ + 1, .reg rs, s, cx, wr => match aOps pures call base cx rs s (cx + rs.length) wr with
    | some (s', cx', wr') => some (.normal, s', cx', wr')
    | none => none
  | _ + 1, .dreg dyn rs, s, cx, wr => match dOps pures call base cx 0 rs s (cx + rs.length) wr with
    | some (s', cx', wr', ts) => if dyn.all (fun p => disj (ts.getD p.1 []) (ts.getD p.2 [])) then some (.normal, s', cx', wr') else none
    | none => none
  | n + 1, .seq a b, s, cx, wr => match aC pures call base n a s cx wr with
    | some (.normal, s', cx', wr') => aC pures call base n b s' cx' wr'
    | r => r
  | n + 1, .cond c a b, s, cx, wr => match c.ev s.fr with
    | .bool c => if c then aC pures call base n a s cx wr else aC pures call base n b s cx wr
    | _ => none
  | n + 1, .block id c, s, cx, wr => match aC pures call base n c s cx wr with
    | some (.exit id', s', cx', wr') => if id' = id then some (.normal, s', cx', wr') else some (.exit id', s', cx', wr')
    | r => r
  | n + 1, .loop c, s, cx, wr => match aC pures call base n c s cx wr with
    | some (.normal, s', cx', wr') => aC pures call base n (.loop c) s' cx' wr'
    | r => r
  | _ + 1, .exit id, s, cx, wr => some (.exit id, s, cx, wr)
  | _ + 1, .ret, s, cx, wr => some (.ret, s, cx, wr)
  | n + 1, .scope c, s, cx, wr => match aC pures call base n c s cx wr with
    | some (.goto l, s', cx', wr') => match labelL c l with
      | some c' => match aC pures call base n c' s' cx' wr' with
        | some (.goto _, _, _, _) => none
        | r => r
      | none => none
    | r => r
  | _ + 1, .label _, s, cx, wr => some (.normal, s, cx, wr)
  | _ + 1, .goto l, s, cx, wr => some (.goto l, s, cx, wr)

def resV (fr : Nat → AV) (H : Heap) : List LRes → Option (List AV)
  | [] => some []
  | .tmp t :: r => match resV fr H r with
    | some xs => some (fr t :: xs)
    | none => none
  | .cell t m ag :: r => match ldV H (fr t) m ag with
    | some v => match resV fr H r with
      | some xs => some (v :: xs)
      | none => none
    | none => none

def retV (fr : Nat → AV) (H : Heap) (rs : List LRes) : Option AV :=
  match resV fr H rs with
  | some [x] => some x
  | some xs => some (.tup xs)
  | none => none

def initA (args : List AV) (H : Heap) : St := { fr := fun t => args.getD t .any, H := H }

/-- A function's code: how many slots, the code, the results; E: it copies slices of E cells an element. -/
structure FCode where
  nt : Nat
  c : LCode
  r : List LRes
  clone : Option Nat

abbrev Codes := Map FCode

def Ex.done : Ex → Bool
  | .normal => true
  | .ret => true
  | _ => false

def goF (pures : Nat → Bool) (call : CallA) (n : Nat) (k : FCode) (args : List AV) (H : Heap) (cx : Nat) : Option Out :=
  if args.length ≤ k.nt then
    match aC pures call cx n k.c (initA args H) cx false with
    | some (e, s, cx', wr) => if e.done then
        match retV s.fr s.H k.r with
        | some v => some ⟨v, s.H, cx', wr⟩
        | none => none
      else none
    | none => none
  else none

/-- Nothing to copy. -/
def cloneNone (k : FCode) (args : List AV) : Bool := match k.clone, args with
  | some E, [.ro E' [] _] => E == E'
  | _, _ => false

/-- A FUNCTION's call; a copy of nothing is settled apart. -/
def aF (pures : Nat → Bool) (codes : Codes) : Nat → CallA
  | 0 => fun _ _ _ _ => none
  | n + 1 => fun f args H cx => match codes.get f with
    | some k => if cloneNone k args then some ⟨.ro (k.clone.getD 0) [] true, H, cx, false⟩ else goF pures (aF pures codes n) n k args H cx
    | none => none

/-! ### Soundness -/

def Bd (H : Heap) (cx : Nat) : Prop := ∀ q, cx ≤ q → H q = none

structure OkOut (P : Program) (f : FuncId) (args : List AV) (H : Heap) (cx : Nat) (o : Out) : Prop where
  enters : entersB P f = true
  sp : SpV P f args H o.v o.H
  bd : Bd H cx → Bd o.H o.cx
  le : cx ≤ o.cx
  keep : o.wr = false → ∀ q, q < cx → o.H q = H q

def CallOk (P : Program) (call : CallA) : Prop := ∀ f args H cx o, call f args H cx = some o → OkOut P f args H cx o

section
variable {P : Program} {pures : Nat → Bool} {call : CallA} {n : Nat} {base : Nat}

theorem doCall_ok (hc : CallOk P call) {strict : Bool} {f : Nat} {args : List AV} {H : Heap} {cx : Nat} {o : Out} (h : doCall pures call strict f args H cx = some o) : OkOut P f args H cx o := by
  unfold doCall at h
  split at h
  · split at h
    · rename_i ha
      split at h
      · rename_i o' ho
        split at h
        · rename_i v hv
          split at h
          · rename_i hp
            cases h
            have := hc _ _ _ _ _ ho
            exact ⟨this.enters, pure_sound this.sp ha hv hp H, fun h => h, Nat.le_refl _, fun _ _ _ => rfl⟩
          · cases h
        · cases h
      · cases h
    · split at h
      · cases h
      · exact hc _ _ _ _ _ h
  · exact hc _ _ _ _ _ h

/-- A pure call, of any heap. -/
theorem doCall_pure (hc : CallOk P call) {f : Nat} (hf : pures f = true) {args : List AV} {H : Heap} {cx : Nat} {o : Out} (h : doCall pures call true f args H cx = some o) : (∀ H, SpV P f args H o.v H) ∧ o.H = H ∧ o.cx = cx ∧ o.wr = false := by
  unfold doCall at h
  rw [if_pos hf] at h
  split at h
  · rename_i ha
    split at h
    · rename_i o' ho
      split at h
      · rename_i v hv
        split at h
        · rename_i hp
          cases h
          exact ⟨fun H => pure_sound (hc _ _ _ _ _ ho).sp ha hv hp H, rfl, rfl, rfl⟩
        · cases h
      · cases h
    · cases h
  · rw [if_pos rfl] at h; cases h

theorem wrB_out {ws : List (Nat × HO)} {H : Heap} (h : wrB base ws = false) {q : Nat} (hq : q < base) : updH H ws q = H q := updH_out fun p hp e => by
  have := List.any_eq_false.1 h p hp
  simp only [Bool.not_eq_true, Nat.blt_eq] at this
  exact this (by rw [e]; exact hq) |>.elim

structure StepOk (P : Program) (base nm : Nat) (r : LOpr) (s : St) (cx : Nat) (s' : St) (cx' : Nat) (wr : Bool) : Prop where
  step : Step P nm r s s'
  bd : nm < cx → Bd s.H cx → Bd s'.H cx'
  le : cx ≤ cx'
  keep : base ≤ cx → wr = false → ∀ q, q < base → s'.H q = s.H q

theorem aGo_ok (hc : CallOk P call) {strict : Bool} {nm : Nat} {r : LOpr} {s s' : St} {cx cx' : Nat} {wr : Bool} (hg : ∀ t p, r.g = some (t, p) → guardOk (s.fr t) ∧ guardB p (s.fr t) = true) (h : aGo pures call strict base nm r s cx = some (s', cx', wr)) :
    StepOk P base nm r s cx s' cx' wr := by
  unfold aGo at h
  split at h
  · rename_i f args hop
    split at h
    · rename_i o ho
      cases h
      have := doCall_ok hc ho
      exact ⟨.call f args _ _ hg (.inl hop) this.sp, fun _ => this.bd, this.le, fun hb hw q hq => this.keep hw q (Nat.lt_of_lt_of_le hq hb)⟩
    · cases h
  · rename_i f args hop
    split at h
    · rename_i o ho
      cases h
      have := doCall_ok hc ho
      exact ⟨.call f args _ _ hg (.inr (.inr hop)) this.sp, fun _ => this.bd, this.le, fun hb hw q hq => this.keep hw q (Nat.lt_of_lt_of_le hq hb)⟩
    · cases h
  · rename_i f args hop
    split at h
    · rename_i o ho
      split at h
      · cases h
        have := doCall_ok hc ho
        exact ⟨.call f args _ _ hg (.inr (.inl hop)) this.sp, fun _ => this.bd, this.le, fun hb hw q hq => this.keep hw q (Nat.lt_of_lt_of_le hq hb)⟩
      · cases h
    · cases h
  · rename_i x args hop
    split at h
    · rename_i f caps hx
      split at h
      · rename_i o ho
        cases h
        have := doCall_ok hc ho
        exact ⟨.callv x args f caps _ _ hg hop hx this.enters this.sp, fun _ => this.bd, this.le, fun hb hw q hq => this.keep hw q (Nat.lt_of_lt_of_le hq hb)⟩
      · cases h
    · cases h
  · split at h
    · rename_i v ws hrun
      cases h
      refine ⟨.run v ws hg hrun, fun hlt hb q hq => ?_, Nat.le_refl _, fun _ hw q hq => wrB_out hw hq⟩
      show updH s.H ws q = none
      rw [updH_out fun p hp e => ?_]
      · exact hb q hq
      · rcases run_ws hrun p hp with h' | h'
        · rw [← h'.1, e] at hlt; omega
        · exact h'.2 (by rw [e]; exact hb q hq)
    · cases h

theorem aOp_ok (hc : CallOk P call) {strict : Bool} {nm : Nat} {r : LOpr} {s s' : St} {cx cx' : Nat} {wr : Bool} (h : aOp pures call strict base nm r s cx = some (s', cx', wr)) : StepOk P base nm r s cx s' cx' wr := by
  unfold aOp at h
  split at h
  · rename_i hg
    exact aGo_ok hc (fun t p e => by rw [hg] at e; cases e) h
  · rename_i t p hg
    split at h
    · rename_i b hb
      split at h
      · rename_i hbp
        exact aGo_ok hc (fun t' p' e => by rw [hg] at e; cases e; rw [hb]; exact ⟨trivial, hbp⟩) h
      · rename_i hbp
        cases h
        exact ⟨.skip t p hg (by rw [hb]; trivial) (by rw [hb]; simpa [guardB] using hbp), fun _ h => h, Nat.le_refl _, fun _ _ _ _ => rfl⟩
    · rename_i vs hb
      cases h
      exact ⟨.skip t p hg (by rw [hb]; trivial) (by rw [hb]; rfl), fun _ h => h, Nat.le_refl _, fun _ _ _ _ => rfl⟩
    · cases h

/-- The same, told as a step of a region that draws. -/
theorem aOp_ef (hc : CallOk P call) {c0 nm : Nat} {r : LOpr} {s s' : St} {cx cx' : Nat} {wr : Bool} (h0 : c0 ≤ cx) (h : aOp pures call true base nm r s cx = some (s', cx', wr)) (hw : r.op.cls pures = .C → wr = false) :
    ∃ v H1, Ef P pures c0 nm r s.fr s.H v H1 ∧ s' = { fr := updF s.fr r.d v, H := H1 } := by
  have go : (∀ t p, r.g = some (t, p) → guardOk (s.fr t) ∧ guardB p (s.fr t) = true) → aGo pures call true base nm r s cx = some (s', cx', wr) → ∃ v H1, Ef P pures c0 nm r s.fr s.H v H1 ∧ s' = { fr := updF s.fr r.d v, H := H1 } := fun hg h => by
    unfold aGo at h
    split at h
    · rename_i f args hop
      split at h
      · rename_i o ho
        cases h
        have := doCall_ok hc ho
        exact ⟨_, _, .fcall f args _ _ hg hop this.sp, rfl⟩
      · cases h
    · rename_i f args hop
      split at h
      · rename_i o ho
        cases h
        have := doCall_ok hc ho
        exact ⟨_, _, .kcall f args _ _ hg hop this.sp (fun q hq => this.keep (hw (by rw [hop]; rfl)) q (Nat.lt_of_lt_of_le hq h0)), rfl⟩
      · cases h
    · rename_i f args hop
      split at h
      · rename_i o ho
        split at h
        · rename_i hf
          cases h
          obtain ⟨h1, h2, h3, h4⟩ := doCall_pure hc hf ho
          exact ⟨o.v, s.H, Ef.pcall f args _ hg hop h1, by rw [h2]⟩
        · cases h
      · cases h
    · rename_i x args hop
      split at h
      · rename_i f caps hx
        split at h
        · rename_i o ho
          cases h
          have := doCall_ok hc ho
          exact ⟨_, _, .vcall x args f caps _ _ hg hop hx this.enters this.sp, rfl⟩
        · cases h
      · cases h
    · split at h
      · rename_i v ws hrun
        cases h
        exact ⟨v, _, .run v ws hg hrun, rfl⟩
      · cases h
  unfold aOp at h
  split at h
  · rename_i hg
    exact go (fun t p e => by rw [hg] at e; cases e) h
  · rename_i t p hg
    split at h
    · rename_i b hb
      split at h
      · rename_i hbp
        exact go (fun t' p' e => by rw [hg] at e; cases e; rw [hb]; exact ⟨trivial, hbp⟩) h
      · rename_i hbp
        cases h
        exact ⟨_, _, .skip t p hg (by rw [hb]; trivial) (by rw [hb]; simpa [guardB] using hbp), rfl⟩
    · rename_i vs hb
      cases h
      exact ⟨_, _, .skip t p hg (by rw [hb]; trivial) (by rw [hb]; rfl), rfl⟩
    · cases h

structure MoveOk (base : Nat) (H : Heap) (cx : Nat) (wr : Bool) (H' : Heap) (cx' : Nat) (wr' : Bool) : Prop where
  bd : Bd H cx → Bd H' cx'
  le : cx ≤ cx'
  keep : base ≤ cx → wr' = false → wr = false ∧ ∀ q, q < base → H' q = H q

theorem MoveOk.refl {H : Heap} {cx : Nat} {wr : Bool} : MoveOk base H cx wr H cx wr := ⟨fun h => h, Nat.le_refl _, fun _ h => ⟨h, fun _ _ => rfl⟩⟩
theorem MoveOk.trans {H H' H'' : Heap} {cx cx' cx'' : Nat} {wr wr' wr'' : Bool} (h : MoveOk base H cx wr H' cx' wr') (g : MoveOk base H' cx' wr' H'' cx'' wr'') : MoveOk base H cx wr H'' cx'' wr'' :=
  ⟨fun hb => g.bd (h.bd hb), Nat.le_trans h.le g.le, fun hb hw => by
    obtain ⟨e1, e2⟩ := g.keep (Nat.le_trans hb h.le) hw
    obtain ⟨e3, e4⟩ := h.keep hb e1
    exact ⟨e3, fun q hq => (e2 q hq).trans (e4 q hq)⟩⟩

theorem StepOk.move {nm : Nat} {r : LOpr} {s s' : St} {cx cx' : Nat} {w wr : Bool} (h : StepOk P base nm r s cx s' cx' w) (hn : nm < cx) : MoveOk base s.H cx wr s'.H cx' (wr || w) :=
  ⟨h.bd hn, h.le, fun hb hw => by simp only [Bool.or_eq_false_iff] at hw; exact ⟨hw.1, h.keep hb hw.2⟩⟩

def fitRs (P : Program) (n : Nat) (ops : Array Oper) : List Oper → List LOpr → Bool
  | [], [] => true
  | o :: os, r :: rs => fitR P n ops o r && fitRs P n ops os rs
  | _, _ => false

theorem fitRs_at {ops' : Array Oper} : ∀ {os : List Oper} {rs : List LOpr}, fitRs P n ops' os rs = true → os.length = rs.length ∧ ∀ (i : Nat) o, os[i]? = some o → ∃ r, rs[i]? = some r ∧ fitR P n ops' o r = true
  | [], [], _ => ⟨rfl, fun i o h => by simp at h⟩
  | o :: os, r :: rs, h => by
    simp only [fitRs, Bool.and_eq_true] at h
    obtain ⟨f1, f3⟩ := h
    obtain ⟨h1, h2⟩ := fitRs_at f3
    refine ⟨by simp [h1], fun i o' hi => ?_⟩
    cases i with
    | zero => simp only [List.getElem?_cons_zero, Option.some.injEq] at hi; subst hi; exact ⟨r, rfl, f1⟩
    | succ i => exact h2 i o' (by simpa using hi)
  | [], _ :: _, h => by cases h
  | _ :: _, [], h => by cases h

/-- Code against its abstract form. -/
def fitC (P : Program) (pures : Nat → Bool) (n : Nat) : Code → LCode → Bool
  | .skip, .skip => true
  | .region _ ops draw, .reg rs => !draw && fitRs P n ops ops.toList rs
  | .region _ ops draw, .dreg dyn rs => draw && fitRs P n ops ops.toList rs && drawOk pures dyn ops rs
  | .seq a b, .seq a' b' => fitC P pures n a a' && fitC P pures n b b'
  | .cond c a b, .cond c' a' b' => fitA c c' && fitC P pures n a a' && fitC P pures n b b'
  | .block id c, .block id' c' => id == id' && fitC P pures n c c'
  | .loop c, .loop c' => fitC P pures n c c'
  | .exit id, .exit id' => id == id'
  | .ret, .ret => true
  | .scope c, .scope c' => fitC P pures n c c'
  | .label l, .label l' => l == l'
  | .goto l, .goto l' => l == l'
  | _, _ => false

/-- Behind the code: this exit, this state. -/
def Post (n : Nat) (F : Nat → Prop) (Γ0 : RO) (w0 : World) (e : Ex) (s' : St) : Exit → Act → World → Prop := fun e' a' w' => e' = e.to ∧ ∃ Γ', Conc n F Γ0 w0 Γ' s' a' w'

/-- The code leads from s to s'. -/
def LW (P : Program) (pures : Nat → Bool) (n : Nat) (lc : LCode) (s : St) (e : Ex) (s' : St) : Prop :=
  ∀ c, fitC P pures n c lc = true → ∀ (F : Nat → Prop) (Γ0 : RO) (w0 : World) (Γ : RO) (a : Act) (w : World), Conc n F Γ0 w0 Γ s a w → c.wp P (Post n F Γ0 w0 e s') a w

inductive Steps' (P : Program) : Nat → List LOpr → St → St → Prop where
  | nil (nm s) : Steps' P nm [] s s
  | cons (nm r rs s s1 s') : Step P nm r s s1 → Steps' P (nm + 1) rs s1 s' → Steps' P nm (r :: rs) s s'

theorem aOps_ok (hc : CallOk P call) : ∀ (rs : List LOpr) (nm : Nat) (s : St) (cx : Nat) (wr : Bool) (s' : St) (cx' : Nat) (wr' : Bool), nm + rs.length ≤ cx → aOps pures call base nm rs s cx wr = some (s', cx', wr') →
    Steps' P nm rs s s' ∧ MoveOk base s.H cx wr s'.H cx' wr'
  | [], nm, s, cx, wr, s', cx', wr', _, h => by cases h; exact ⟨.nil _ _, .refl⟩
  | r :: rs, nm, s, cx, wr, s', cx', wr', hn, h => by
    simp only [aOps] at h
    split at h
    · rename_i s1 cx1 wr1 h1
      have hs := aOp_ok hc h1
      simp only [List.length_cons] at hn
      obtain ⟨h2, h3⟩ := aOps_ok hc rs (nm + 1) s1 cx1 (wr || wr1) s' cx' wr' (by have := hs.le; omega) h
      exact ⟨.cons _ _ _ _ _ _ hs.step h2, (hs.move (by omega)).trans h3⟩
    · cases h

theorem steps_sound {F : Nat → Prop} {Γ0 : RO} {w0 : World} {ops : Array Oper} {Qc : Exit → Act → World → Prop} : ∀ (os : List Oper) (rs : List LOpr) (nm : Nat) (s s' : St) (Γ : RO) (a : Act) (w : World), (Next' n F Γ0 w0 s' (Qc .normal)) →
    fitRs P n ops os rs = true → Conc n F Γ0 w0 Γ s a w → Steps' P nm rs s s' → wpList P ops Qc os a w
  | [], [], nm, s, s', Γ, a, w, hK, _, hc, h => by cases h; exact hK Γ a w hc
  | o :: os, r :: rs, nm, s, s', Γ, a, w, hK, hf, hc, h => by
    simp only [fitRs, Bool.and_eq_true] at hf
    cases h with
    | cons _ _ _ _ s1 _ h1 h2 =>
      have := step_goes (Q := Qc) hc hf.1 h1 (next := wpList P ops Qc os) (fun Γ a w hc' => steps_sound os rs (nm + 1) s1 s' Γ a w hK hf.2 hc' h2)
      unfold Comes' at this
      simp only [wpList]
      split
      · rename_i hw; rw [if_pos hw] at this; exact .inl this
      · rename_i hw; rw [if_neg hw] at this; exact this
  | [], _ :: _, _, _, _, _, _, _, _, h, _, _ => by cases h
  | _ :: _, [], _, _, _, _, _, _, _, h, _, _ => by cases h

theorem dOps_ok (hc : CallOk P call) {c0 : Nat} (T : Nat → List Nat) : ∀ (rs : List LOpr) (i : Nat) (s : St) (cx : Nat) (wr : Bool) (s' : St) (cx' : Nat) (wr' : Bool) (ts : List (List Nat)), c0 + i + rs.length ≤ cx → (∀ k, k < rs.length → T (i + k) = ts.getD k []) →
    dOps pures call base c0 i rs s cx wr = some (s', cx', wr', ts) → DSs P pures T c0 i rs s s' ∧ MoveOk base s.H cx wr s'.H cx' wr' ∧ ts.length = rs.length
  | [], i, s, cx, wr, s', cx', wr', ts, _, _, h => by cases h; exact ⟨rfl, .refl, rfl⟩
  | r :: rs, i, s, cx, wr, s', cx', wr', ts, hn, hT, h => by
    simp only [dOps] at h
    split at h
    · rename_i s1 cx1 wr1 h1
      split at h
      · cases h
      · rename_i hcond
        simp only [Bool.or_eq_true, Bool.and_eq_true, decide_eq_true_eq, not_or, not_and, Bool.not_eq_true, Bool.not_eq_true', Bool.not_eq_false'] at hcond
        split at h
        · rename_i s2 cx2 wr2 ts2 h2
          cases h
          have hs := aOp_ok hc h1
          simp only [List.length_cons] at hn
          obtain ⟨k1, k2, k3⟩ := dOps_ok hc T rs (i + 1) s1 cx1 (wr || wr1) s' cx' wr' ts2 (by have := hs.le; omega) (fun k hk => by have := hT (k + 1) (by simp; omega); simpa [Nat.add_assoc, Nat.add_comm 1 k] using this) h2
          have hT0 : T i = r.op.tops (c0 + i) s.fr := by have := hT 0 (by simp); simpa using this
          obtain ⟨v, H1, e1, e2⟩ := aOp_ef hc (c0 := c0) (by omega) h1 (fun h => hcond.2 h)
          refine ⟨⟨s1, ⟨v, H1, e1, hT0.symm, fun hl q hq => ?_, e2⟩, k1⟩, (hs.move (by omega)).trans k2, by simp [k3]⟩
          rw [hT0] at hq
          have h' := hcond.1 hl
          simp at h'
          exact h' q hq
        · cases h
    · cases h

theorem Conc.drawn {F : Nat → Prop} {Γ0 Γ : RO} {w0 w : World} {s : St} {a : Act} (hc : Conc n F Γ0 w0 Γ s a w) (d : Nat) : Conc n F Γ0 w0 Γ s a { w with drawn := d } :=
  ⟨hc.defers, hc.size, hc.base, ⟨hc.ext.keep, hc.ext.keepG, hc.ext.mono, hc.ext.size, hc.ext.tape, hc.ext.os, hc.ext.out⟩, hc.fb, hc.slots, ⟨hc.heap.obj, hc.heap.inj, hc.heap.dom⟩⟩

theorem anyD_sound {F : Nat → Prop} {Γ0 : RO} {w0 : World} {Qc : Exit → Act → World → Prop} {T : Nat → List Nat} {cx : Nat} {md : Region.Mode} {ops : Array Oper} {rs : List LOpr} {Q : St → Prop} (hf : fitRs P n ops ops.toList rs = true) (hQ : ∀ s', Q s' → Next' n F Γ0 w0 s' (Qc .normal)) :
    ∀ (fuel : Nat) (listed : Array Bool) (s : St) (Γ : RO) (a : Act) (w : World), Conc n F Γ0 w0 Γ s a w → anyD P pures T cx md ops rs Q fuel listed s → wpAny P md ops Qc fuel listed a w
  | 0, _, s, Γ, a, w, hc, h => ⟨h.1, hQ s h.2 Γ a w hc⟩
  | fuel + 1, listed, s, Γ, a, w, hc, h => by
    refine ⟨fun h0 => hQ s (h.1 h0) Γ a w hc, fun i hi => ?_⟩
    obtain ⟨_, o, ho, _⟩ := mem_ready.1 hi
    obtain ⟨r, hr, f1⟩ := (fitRs_at hf).2 i o (by simpa using ho)
    obtain ⟨s1, ⟨v, H1, e1, _, _, e2⟩, h2⟩ := h.2 i hi r hr
    have := step_goes (Q := Qc) hc f1 (e2 ▸ e1.step) (next := wpAny P md ops Qc fuel (listed.setIfInBounds i true)) (fun Γ a w hc' => anyD_sound hf hQ fuel _ s1 Γ a w hc' h2)
    unfold Comes' at this
    unfold wpOp
    simp only [ho]
    split
    · rename_i hw; rw [if_pos hw] at this; exact .inl this
    · rename_i hw; rw [if_neg hw] at this; exact this

theorem fit_label : ∀ {c : Code} {lc : LCode} {l : Nat} {lc' : LCode}, fitC P pures n c lc = true → labelL lc l = some lc' → ∃ c', findLabel c l = some c' ∧ fitC P pures n c' lc' = true := by
  intro c lc
  induction lc generalizing c with
  | seq a b iha ihb =>
    intro l lc' hf h
    cases c <;> try (simp [fitC] at hf; done)
    rename_i x y
    simp only [fitC, Bool.and_eq_true] at hf
    simp only [labelL] at h
    split at h
    · rename_i a' ha
      cases h
      obtain ⟨x', h1, h2⟩ := iha hf.1 ha
      exact ⟨.seq x' y, by simp [findLabel, h1], by simp [fitC, h2, hf.2]⟩
    · rename_i ha
      obtain ⟨y', h1, h2⟩ := ihb hf.2 h
      have hno : findLabel x l = none := by
        clear ihb iha h h1 h2
        have key : ∀ {c : Code} {lc : LCode}, fitC P pures n c lc = true → labelL lc l = none → findLabel c l = none := by
          intro c lc
          induction lc generalizing c with
          | seq a b iha ihb =>
            intro hf h
            cases c <;> try (simp [fitC] at hf; done)
            simp only [fitC, Bool.and_eq_true] at hf
            simp only [labelL] at h
            split at h
            · cases h
            · rename_i ha'
              simp [findLabel, iha hf.1 ha', ihb hf.2 h]
          | label l' =>
            intro hf h
            cases c <;> try (simp [fitC] at hf; done)
            simp only [fitC, beq_iff_eq] at hf
            subst hf
            simp only [labelL] at h
            split at h
            · cases h
            · rename_i hne; simp [findLabel, hne]
          | _ => intro hf _; cases c <;> first | rfl | (simp [fitC] at hf)
        exact key hf.1 ha
      exact ⟨y', by simp [findLabel, hno, h1], h2⟩
  | label l' =>
    intro l lc' hf h
    cases c <;> try (simp [fitC] at hf; done)
    simp only [fitC, beq_iff_eq] at hf
    subst hf
    simp only [labelL] at h
    split at h
    · rename_i he
      cases h
      exact ⟨.skip, by simp [findLabel, he], rfl⟩
    · cases h
  | _ => intro l lc' hf h; cases h
end

end Go.Proofs.YtfhflogbffibiaaGreat
