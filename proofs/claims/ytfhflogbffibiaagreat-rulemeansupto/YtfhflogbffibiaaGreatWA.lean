/-
  Walks over the machine: what a code, an operation, a call come to, as equivalences that simp follows.
-/
import Derived.Test.YtfhflogbffibiaaGreatVY
import Derived.Test.YtfhflogbffibiaaGreatKZ
namespace Go.Proofs.YtfhflogbffibiaaGreat
open Go
set_option linter.unusedSimpArgs false
set_option linter.unusedVariables false

/-- All calls, to a depth. -/
abbrev CT (n : Nat) : CallA := aF pures codes n

theorem CT_le {n m : Nat} (h : n ≤ m) : CallLe (CT n) (CT m) := aF_mono h

def W (base : Nat) (lc : LCode) (s : St) (cx : Nat) (wr : Bool) (Q : Ex → St → Nat → Bool → Prop) : Prop :=
  ∃ n k e s' cx' wr', aC pures (CT n) base k lc s cx wr = some (e, s', cx', wr') ∧ Q e s' cx' wr'

def WOps (base nm : Nat) (rs : List LOpr) (s : St) (cx : Nat) (wr : Bool) (K : St → Nat → Bool → Prop) : Prop :=
  ∃ n s' cx' wr', aOps pures (CT n) base nm rs s cx wr = some (s', cx', wr') ∧ K s' cx' wr'

def WOp (base nm : Nat) (r : LOpr) (s : St) (cx : Nat) (K : St → Nat → Bool → Prop) : Prop :=
  ∃ n s' cx' wr', aOp pures (CT n) false base nm r s cx = some (s', cx', wr') ∧ K s' cx' wr'

def WGo (base nm : Nat) (d : Option Nat) (op : LOp) (s : St) (cx : Nat) (K : St → Nat → Bool → Prop) : Prop :=
  ∃ n s' cx' wr', aGo pures (CT n) false base nm ⟨d, op, none⟩ s cx = some (s', cx', wr') ∧ K s' cx' wr'

def WDs (base c0 i : Nat) (rs : List LOpr) (s : St) (cx : Nat) (wr : Bool) (K : St → Nat → Bool → List (List Nat) → Prop) : Prop :=
  ∃ n s' cx' wr' ts, dOps pures (CT n) base c0 i rs s cx wr = some (s', cx', wr', ts) ∧ K s' cx' wr' ts

/-- A call comes to an outcome. -/
def WCall (strict : Bool) (f : Nat) (args : List AV) (H : Heap) (cx : Nat) (K : Out → Prop) : Prop :=
  ∃ n o, doCall pures (CT n) strict f args H cx = some o ∧ K o

/-- A function's body comes to an outcome. -/
def Fn (f : Nat) (args : List AV) (H : Heap) (cx : Nat) (K : Out → Prop) : Prop := ∃ n o, CT n f args H cx = some o ∧ K o

def WIf (b : Bool) (p q : Prop) : Prop := (b = true → p) ∧ (b = false → q)

theorem WIf_true {p q : Prop} : WIf true p q ↔ p := by simp [WIf]
theorem WIf_false {p q : Prop} : WIf false p q ↔ q := by simp [WIf]

def onBool (a : AV) (k : Bool → Prop) : Prop := match a with
  | .bool b => k b
  | _ => False

def onSome {α : Type} (x : Option α) (k : α → Prop) : Prop := match x with
  | some a => k a
  | none => False

theorem onBool_bool {b : Bool} {k : Bool → Prop} : onBool (.bool b) k ↔ k b := Iff.rfl
theorem onSome_some {α : Type} {a : α} {k : α → Prop} : onSome (some a) k ↔ k a := Iff.rfl
theorem onSome_none {α : Type} {k : α → Prop} : onSome (none : Option α) k ↔ False := Iff.rfl

section
variable {base nm : Nat} {s : St} {cx : Nat} {wr : Bool} {Q : Ex → St → Nat → Bool → Prop}

theorem aC_to {n m k l : Nat} (h : n ≤ m) (g : k ≤ l) {lc : LCode} {x : Ex × St × Nat × Bool} (e : aC pures (CT n) base k lc s cx wr = some x) : aC pures (CT m) base l lc s cx wr = some x := aC_mono (CT_le h) k l lc s cx wr x g e

theorem W_of {n k : Nat} {lc : LCode} {e : Ex} {s' : St} {cx' : Nat} {wr' : Bool} (h : aC pures (CT n) base k lc s cx wr = some (e, s', cx', wr')) (q : Q e s' cx' wr') : W base lc s cx wr Q := ⟨n, k, e, s', cx', wr', h, q⟩

theorem W_skip : W base .skip s cx wr Q ↔ Q .normal s cx wr := ⟨fun ⟨n, k, e, s', cx', wr', h, q⟩ => by cases k <;> simp [aC] at h; obtain ⟨rfl, rfl, rfl, rfl⟩ := h; exact q, fun q => ⟨0, 1, _, _, _, _, rfl, q⟩⟩
theorem W_ret : W base .ret s cx wr Q ↔ Q .ret s cx wr := ⟨fun ⟨n, k, e, s', cx', wr', h, q⟩ => by cases k <;> simp [aC] at h; obtain ⟨rfl, rfl, rfl, rfl⟩ := h; exact q, fun q => ⟨0, 1, _, _, _, _, rfl, q⟩⟩
theorem W_exit {id : Nat} : W base (.exit id) s cx wr Q ↔ Q (.exit id) s cx wr := ⟨fun ⟨n, k, e, s', cx', wr', h, q⟩ => by cases k <;> simp [aC] at h; obtain ⟨rfl, rfl, rfl, rfl⟩ := h; exact q, fun q => ⟨0, 1, _, _, _, _, rfl, q⟩⟩
theorem W_goto {l : Nat} : W base (.goto l) s cx wr Q ↔ Q (.goto l) s cx wr := ⟨fun ⟨n, k, e, s', cx', wr', h, q⟩ => by cases k <;> simp [aC] at h; obtain ⟨rfl, rfl, rfl, rfl⟩ := h; exact q, fun q => ⟨0, 1, _, _, _, _, rfl, q⟩⟩
theorem W_label {l : Nat} : W base (.label l) s cx wr Q ↔ Q .normal s cx wr := ⟨fun ⟨n, k, e, s', cx', wr', h, q⟩ => by cases k <;> simp [aC] at h; obtain ⟨rfl, rfl, rfl, rfl⟩ := h; exact q, fun q => ⟨0, 1, _, _, _, _, rfl, q⟩⟩

/-- On to the next, or out. -/
def thenQ (k : St → Nat → Bool → Prop) (Q : Ex → St → Nat → Bool → Prop) : Ex → St → Nat → Bool → Prop
  | .normal, s, cx, wr => k s cx wr
  | e, s, cx, wr => Q e s cx wr

theorem W_seq {a b : LCode} : W base (.seq a b) s cx wr Q ↔ W base a s cx wr (thenQ (fun s cx wr => W base b s cx wr Q) Q) := by
  constructor
  · rintro ⟨n, k, e, s', cx', wr', h, q⟩
    cases k with
    | zero => cases h
    | succ k =>
      simp only [aC] at h
      split at h
      · rename_i s1 cx1 wr1 h1
        exact W_of h1 (W_of h q)
      · rename_i hne
        refine W_of h ?_
        cases e with
        | normal => exact absurd h (hne _ _ _)
        | exit id => exact q
        | ret => exact q
        | goto l => exact q
  · rintro ⟨n, k, e, s1, cx1, wr1, h, q⟩
    cases e with
    | normal =>
      obtain ⟨n', k', e, s', cx', wr', h', q⟩ := q
      refine W_of (n := max n n') (k := max k k' + 1) ?_ q
      simp only [aC]
      rw [aC_to (Nat.le_max_left n n') (Nat.le_max_left k k') h]
      exact aC_to (Nat.le_max_right n n') (Nat.le_max_right k k') h'
    | exit id => exact W_of (n := n) (k := k + 1) (by simp only [aC]; rw [h]) q
    | ret => exact W_of (n := n) (k := k + 1) (by simp only [aC]; rw [h]) q
    | goto l => exact W_of (n := n) (k := k + 1) (by simp only [aC]; rw [h]) q

theorem W_cond {c : LA} {a b : LCode} : W base (.cond c a b) s cx wr Q ↔ onBool (c.ev s.fr) fun v => WIf v (W base a s cx wr Q) (W base b s cx wr Q) := by
  constructor
  · rintro ⟨n, k, e, s', cx', wr', h, q⟩
    cases k with
    | zero => cases h
    | succ k =>
      simp only [aC] at h
      split at h
      · rename_i v hv
        rw [hv]
        refine ⟨fun ht => ?_, fun ht => ?_⟩ <;> subst ht <;> exact W_of h q
      · cases h
  · intro h
    unfold onBool at h
    split at h
    · rename_i v hv
      cases v with
      | true =>
        obtain ⟨n, k, e, s', cx', wr', h', q⟩ := h.1 rfl
        exact W_of (n := n) (k := k + 1) (by simp only [aC, hv, if_true]; exact h') q
      | false =>
        obtain ⟨n, k, e, s', cx', wr', h', q⟩ := h.2 rfl
        exact W_of (n := n) (k := k + 1) (by simp only [aC, hv, Bool.false_eq_true, if_false]; exact h') q
    · exact h.elim

def blockQ (id : Nat) (Q : Ex → St → Nat → Bool → Prop) : Ex → St → Nat → Bool → Prop
  | .exit id', s, cx, wr => if id' = id then Q .normal s cx wr else Q (.exit id') s cx wr
  | e, s, cx, wr => Q e s cx wr

theorem W_block {id : Nat} {a : LCode} : W base (.block id a) s cx wr Q ↔ W base a s cx wr (blockQ id Q) := by
  constructor
  · rintro ⟨n, k, e, s', cx', wr', h, q⟩
    cases k with
    | zero => cases h
    | succ k =>
      simp only [aC] at h
      split at h
      · rename_i id' s1 cx1 wr1 h1
        refine W_of h1 ?_
        simp only [blockQ]
        split at h
        · rename_i hid; cases h; rw [if_pos hid]; exact q
        · rename_i hid; cases h; rw [if_neg hid]; exact q
      · rename_i hne
        refine W_of h ?_
        cases e with
        | exit id => exact absurd h (hne _ _ _ _)
        | normal => exact q
        | ret => exact q
        | goto l => exact q
  · rintro ⟨n, k, e, s1, cx1, wr1, h, q⟩
    cases e with
    | exit id' =>
      simp only [blockQ] at q
      by_cases hid : id' = id
      · rw [if_pos hid] at q
        exact W_of (n := n) (k := k + 1) (by simp only [aC]; rw [h]; simp only; rw [if_pos hid]) q
      · rw [if_neg hid] at q
        exact W_of (n := n) (k := k + 1) (by simp only [aC]; rw [h]; simp only; rw [if_neg hid]) q
    | normal => exact W_of (n := n) (k := k + 1) (by simp only [aC]; rw [h]) q
    | ret => exact W_of (n := n) (k := k + 1) (by simp only [aC]; rw [h]) q
    | goto l => exact W_of (n := n) (k := k + 1) (by simp only [aC]; rw [h]) q

/-- One round of a loop. -/
theorem W_loop {a : LCode} (h : W base a s cx wr (thenQ (fun s cx wr => W base (.loop a) s cx wr Q) Q)) : W base (.loop a) s cx wr Q := by
  obtain ⟨n, k, e, s1, cx1, wr1, h, q⟩ := h
  cases e with
  | normal =>
    obtain ⟨n', k', e, s', cx', wr', h', q⟩ := q
    refine W_of (n := max n n') (k := max k k' + 1) ?_ q
    simp only [aC]
    rw [aC_to (Nat.le_max_left n n') (Nat.le_max_left k k') h]
    exact aC_to (Nat.le_max_right n n') (Nat.le_max_right k k') h'
  | exit id => exact W_of (n := n) (k := k + 1) (by simp only [aC]; rw [h]) q
  | ret => exact W_of (n := n) (k := k + 1) (by simp only [aC]; rw [h]) q
  | goto l => exact W_of (n := n) (k := k + 1) (by simp only [aC]; rw [h]) q

/-- A LOOP: an invariant with a number that every round lowers. -/
theorem W_while {a : LCode} (I : Nat → St → Nat → Bool → Prop) (d : Nat) (h0 : I d s cx wr) (round : ∀ d s cx wr, I d s cx wr → W base a s cx wr (thenQ (fun s' cx' wr' => ∃ d', d' < d ∧ I d' s' cx' wr') Q)) : W base (.loop a) s cx wr Q := by
  induction d using Nat.strongRecOn generalizing s cx wr with
  | _ d ih =>
    refine W_loop ?_
    obtain ⟨n, k, e, s1, cx1, wr1, h, q⟩ := round d s cx wr h0
    refine W_of h ?_
    cases e with
    | normal => obtain ⟨d', hlt, hI⟩ := q; exact ih d' hlt hI
    | exit id => exact q
    | ret => exact q
    | goto l => exact q

theorem W_mono {lc : LCode} {Q' : Ex → St → Nat → Bool → Prop} (h : W base lc s cx wr Q) (hq : ∀ e s cx wr, Q e s cx wr → Q' e s cx wr) : W base lc s cx wr Q' :=
  let ⟨n, k, e, s', cx', wr', h, q⟩ := h; ⟨n, k, e, s', cx', wr', h, hq _ _ _ _ q⟩

def scopeQ (base : Nat) (c : LCode) (Q : Ex → St → Nat → Bool → Prop) : Ex → St → Nat → Bool → Prop
  | .goto l, s, cx, wr => onSome (labelL c l) fun c' => W base c' s cx wr fun e s cx wr => (∀ l', e ≠ .goto l') ∧ Q e s cx wr
  | e, s, cx, wr => Q e s cx wr

theorem W_scope {c : LCode} : W base (.scope c) s cx wr Q ↔ W base c s cx wr (scopeQ base c Q) := by
  constructor
  · rintro ⟨n, k, e, s', cx', wr', h, q⟩
    cases k with
    | zero => cases h
    | succ k =>
      simp only [aC] at h
      split at h
      · rename_i l s1 cx1 wr1 h1
        refine W_of h1 ?_
        simp only [scopeQ]
        split at h
        · rename_i c' hl
          rw [hl]
          split at h
          · cases h
          · rename_i hne
            exact W_of h ⟨fun l' el => hne l' s' cx' wr' (by rw [← el]; exact h), q⟩
        · cases h
      · rename_i hne
        refine W_of h ?_
        cases e with
        | goto l => exact absurd h (hne _ _ _ _)
        | normal => exact q
        | ret => exact q
        | exit id => exact q
  · rintro ⟨n, k, e, s1, cx1, wr1, h, q⟩
    cases e with
    | goto l =>
      simp only [scopeQ] at q
      unfold onSome at q
      split at q
      · rename_i c' hl
        obtain ⟨n', k', e, s', cx', wr', h', hg, q⟩ := q
        refine W_of (n := max n n') (k := max k k' + 1) ?_ q
        simp only [aC]
        rw [aC_to (Nat.le_max_left n n') (Nat.le_max_left k k') h]
        simp only [hl]
        rw [aC_to (Nat.le_max_right n n') (Nat.le_max_right k k') h']
        cases e with
        | goto l' => exact absurd rfl (hg l')
        | normal => rfl
        | ret => rfl
        | exit id => rfl
      · exact q.elim
    | exit id => exact W_of (n := n) (k := k + 1) (by simp only [aC]; rw [h]) q
    | ret => exact W_of (n := n) (k := k + 1) (by simp only [aC]; rw [h]) q
    | normal => exact W_of (n := n) (k := k + 1) (by simp only [aC]; rw [h]) q

theorem W_reg {rs : List LOpr} : W base (.reg rs) s cx wr Q ↔ WOps base cx rs s (cx + rs.length) wr (fun s cx wr => Q .normal s cx wr) := by
  constructor
  · rintro ⟨n, k, e, s', cx', wr', h, q⟩
    cases k with
    | zero => cases h
    | succ k =>
      simp only [aC] at h
      split at h
      · rename_i s1 cx1 wr1 h1; cases h; exact ⟨n, _, _, _, h1, q⟩
      · cases h
  · rintro ⟨n, s', cx', wr', h, q⟩
    exact W_of (n := n) (k := 1) (by simp only [aC]; rw [h]) q

theorem W_dreg {dyn : List (Nat × Nat)} {rs : List LOpr} : W base (.dreg dyn rs) s cx wr Q ↔ WDs base cx 0 rs s (cx + rs.length) wr (fun s cx wr ts => dyn.all (fun p => disj (ts.getD p.1 []) (ts.getD p.2 [])) = true ∧ Q .normal s cx wr) := by
  constructor
  · rintro ⟨n, k, e, s', cx', wr', h, q⟩
    cases k with
    | zero => cases h
    | succ k =>
      simp only [aC] at h
      split at h
      · rename_i s1 cx1 wr1 ts h1
        split at h
        · rename_i hd; cases h; exact ⟨n, _, _, _, _, h1, hd, q⟩
        · cases h
      · cases h
  · rintro ⟨n, s', cx', wr', ts, h, hd, q⟩
    exact W_of (n := n) (k := 1) (by simp only [aC]; rw [h]; simp only; rw [if_pos hd]) q

variable {K : St → Nat → Bool → Prop}

theorem WOps_nil : WOps base nm [] s cx wr K ↔ K s cx wr := ⟨fun ⟨n, s', cx', wr', h, q⟩ => by cases h; exact q, fun q => ⟨0, _, _, _, rfl, q⟩⟩

theorem WOps_cons {r : LOpr} {rs : List LOpr} : WOps base nm (r :: rs) s cx wr K ↔ WOp base nm r s cx (fun s cx w => WOps base (nm + 1) rs s cx (wr || w) K) := by
  constructor
  · rintro ⟨n, s', cx', wr', h, q⟩
    simp only [aOps] at h
    split at h
    · rename_i s1 cx1 wr1 h1
      exact ⟨n, _, _, _, h1, n, _, _, _, h, q⟩
    · cases h
  · rintro ⟨n, s1, cx1, wr1, h1, n', s', cx', wr', h, q⟩
    refine ⟨max n n', s', cx', wr', ?_, q⟩
    simp only [aOps]
    rw [aOp_mono (CT_le (Nat.le_max_left n n')) h1]
    exact aOps_mono (CT_le (Nat.le_max_right n n')) _ _ _ _ _ _ h

theorem aOp_strict {b b' : Bool} {n : Nat} {r : LOpr} : aOp pures (CT n) b base nm r s cx = aOp pures (CT n) b' base nm r s cx := rfl

theorem WOp_plain {d : Option Nat} {op : LOp} : WOp base nm ⟨d, op, none⟩ s cx K ↔ WGo base nm d op s cx K := Iff.rfl

theorem WOp_guard {d : Option Nat} {op : LOp} {t : Nat} {p : Bool} : WOp base nm ⟨d, op, some (t, p)⟩ s cx K ↔ onBool (s.fr t) (fun b => WIf (b == p) (WGo base nm d op s cx K) (K ⟨updF s.fr d undefAV, s.H⟩ cx false)) ∨ ((∃ vs, s.fr t = .raw (.tuple vs)) ∧ K ⟨updF s.fr d undefAV, s.H⟩ cx false) := by
  constructor
  · rintro ⟨n, s', cx', wr', h, q⟩
    simp only [aOp] at h
    split at h
    · rename_i b hb
      refine .inl ?_
      rw [hb]
      split at h
      · rename_i hbp
        exact ⟨fun _ => ⟨n, _, _, _, h, q⟩, fun hf => by rw [hbp] at hf; cases hf⟩
      · rename_i hbp
        cases h
        exact ⟨fun ht => absurd ht hbp, fun _ => q⟩
    · rename_i vs hb
      cases h
      exact .inr ⟨⟨vs, hb⟩, q⟩
    · cases h
  · rintro (h | ⟨⟨vs, hb⟩, q⟩)
    · unfold onBool at h
      split at h
      · rename_i b hb
        cases hbp : b == p with
        | true =>
          obtain ⟨n, s', cx', wr', h', q⟩ := h.1 hbp
          exact ⟨n, s', cx', wr', by simp only [aOp, hb, hbp, if_true]; exact h', q⟩
        | false => exact ⟨0, _, _, _, by simp only [aOp, hb, hbp, Bool.false_eq_true, if_false], h.2 hbp⟩
      · exact h.elim
    · exact ⟨0, _, _, _, by simp only [aOp, hb], q⟩

/-- A guard that holds a bool. -/
theorem WOp_gb {d : Option Nat} {op : LOp} {t : Nat} {p b : Bool} (hb : s.fr t = .bool b) : WOp base nm ⟨d, op, some (t, p)⟩ s cx K ↔ WIf (b == p) (WGo base nm d op s cx K) (K ⟨updF s.fr d undefAV, s.H⟩ cx false) := by
  rw [WOp_guard, hb]
  simp only [onBool]
  constructor
  · rintro (h | ⟨⟨vs, h⟩, _⟩)
    · exact h
    · cases h
  · exact .inl

/-- A guard whose own operation was passed over. -/
theorem WOp_gu {d : Option Nat} {op : LOp} {t : Nat} {p : Bool} (hb : s.fr t = undefAV) : WOp base nm ⟨d, op, some (t, p)⟩ s cx K ↔ K ⟨updF s.fr d undefAV, s.H⟩ cx false := by
  rw [WOp_guard, hb]
  constructor
  · rintro (h | h)
    · exact h.elim
    · exact h.2
  · exact fun q => .inr ⟨⟨_, rfl⟩, q⟩

def LOp.isCall : LOp → Bool
  | .call _ _ | .kcall _ _ | .pcall _ _ | .callv _ _ => true
  | _ => false

theorem WGo_run {d : Option Nat} {op : LOp} (hc : op.isCall = false) : WGo base nm d op s cx K ↔ onSome (op.run nm s.fr s.H) fun x => K (s.app d x.1 x.2) cx (wrB base x.2) := by
  have hg : ∀ n, aGo pures (CT n) false base nm ⟨d, op, none⟩ s cx = match op.run nm s.fr s.H with | some (v, ws) => some (s.app d v ws, cx, wrB base ws) | none => none := fun n => by
    cases op <;> first | rfl | cases hc
  constructor
  · rintro ⟨n, s', cx', wr', h, q⟩
    rw [hg] at h
    split at h
    · rename_i v ws hr; cases h; rw [hr]; exact q
    · cases h
  · intro h
    unfold onSome at h
    split at h
    · rename_i x hr
      exact ⟨0, _, _, _, by rw [hg, hr], h⟩
    · exact h.elim

theorem WGo_call {d : Option Nat} {f : Nat} {args : List LA} : WGo base nm d (.call f args) s cx K ↔ WCall false f (evs s.fr args) s.H cx fun o => K ⟨updF s.fr d o.v, o.H⟩ o.cx o.wr := by
  constructor
  · rintro ⟨n, s', cx', wr', h, q⟩
    simp only [aGo] at h
    split at h
    · rename_i o ho; cases h; exact ⟨n, o, ho, q⟩
    · cases h
  · rintro ⟨n, o, ho, q⟩
    exact ⟨n, _, _, _, by simp only [aGo]; rw [ho], q⟩

theorem WGo_kcall {d : Option Nat} {f : Nat} {args : List LA} : WGo base nm d (.kcall f args) s cx K ↔ WCall false f (evs s.fr args) s.H cx fun o => K ⟨updF s.fr d o.v, o.H⟩ o.cx o.wr := by
  constructor
  · rintro ⟨n, s', cx', wr', h, q⟩
    simp only [aGo] at h
    split at h
    · rename_i o ho; cases h; exact ⟨n, o, ho, q⟩
    · cases h
  · rintro ⟨n, o, ho, q⟩
    exact ⟨n, _, _, _, by simp only [aGo]; rw [ho], q⟩

theorem WGo_pcall {d : Option Nat} {f : Nat} {args : List LA} : WGo base nm d (.pcall f args) s cx K ↔ WCall true f (evs s.fr args) s.H cx fun o => pures f = true ∧ K ⟨updF s.fr d o.v, o.H⟩ o.cx o.wr := by
  constructor
  · rintro ⟨n, s', cx', wr', h, q⟩
    simp only [aGo] at h
    split at h
    · rename_i o ho
      split at h
      · rename_i hp; cases h; exact ⟨n, o, ho, hp, q⟩
      · cases h
    · cases h
  · rintro ⟨n, o, ho, hp, q⟩
    exact ⟨n, _, _, _, by simp only [aGo]; rw [ho]; simp only [hp, if_true], q⟩

def onFn (a : AV) (k : Nat → List AV → Prop) : Prop := match a with
  | .fn f caps => k f caps
  | _ => False

theorem onFn_fn {f : Nat} {caps : List AV} {k : Nat → List AV → Prop} : onFn (.fn f caps) k ↔ k f caps := Iff.rfl

theorem WGo_callv {d : Option Nat} {x : LA} {args : List LA} : WGo base nm d (.callv x args) s cx K ↔ onFn (x.ev s.fr) fun f caps => WCall false f (evs s.fr args ++ caps) s.H cx fun o => K ⟨updF s.fr d o.v, o.H⟩ o.cx o.wr := by
  constructor
  · rintro ⟨n, s', cx', wr', h, q⟩
    simp only [aGo] at h
    split at h
    · rename_i f caps hx
      rw [hx]
      split at h
      · rename_i o ho; cases h; exact ⟨n, o, ho, q⟩
      · cases h
    · cases h
  · intro h
    unfold onFn at h
    split at h
    · rename_i f caps hx
      obtain ⟨n, o, ho, q⟩ := h
      exact ⟨n, _, _, _, by simp only [aGo, hx]; rw [ho], q⟩
    · exact h.elim

theorem WDs_nil {c0 i : Nat} {K : St → Nat → Bool → List (List Nat) → Prop} : WDs base c0 i [] s cx wr K ↔ K s cx wr [] := ⟨fun ⟨n, s', cx', wr', ts, h, q⟩ => by cases h; exact q, fun q => ⟨0, _, _, _, _, rfl, q⟩⟩

theorem WDs_cons {c0 i : Nat} {r : LOpr} {rs : List LOpr} {K : St → Nat → Bool → List (List Nat) → Prop} : WDs base c0 i (r :: rs) s cx wr K ↔ WOp base (c0 + i) r s cx (fun s' cx' w =>
    ((decide (r.op.cls pures = .L) && !((r.op.tops (c0 + i) s.fr).all fun q => Nat.blt q c0)) || (decide (r.op.cls pures = .C) && w)) = false ∧ WDs base c0 (i + 1) rs s' cx' (wr || w) (fun s2 cx2 wr2 ts => K s2 cx2 wr2 (r.op.tops (c0 + i) s.fr :: ts))) := by
  constructor
  · rintro ⟨n, s', cx', wr', ts, h, q⟩
    simp only [dOps] at h
    split at h
    · rename_i s1 cx1 wr1 h1
      split at h
      · cases h
      · rename_i hcond
        split at h
        · rename_i s2 cx2 wr2 ts2 h2
          cases h
          exact ⟨n, _, _, _, h1, by simpa using hcond, n, _, _, _, _, h2, q⟩
        · cases h
    · cases h
  · rintro ⟨n, s1, cx1, wr1, h1, hcond, n', s', cx', wr', ts, h, q⟩
    refine ⟨max n n', s', cx', wr', _, ?_, q⟩
    simp only [dOps]
    have e1 : aOp pures (CT (max n n')) true base (c0 + i) r s cx = some (s1, cx1, wr1) := aOp_mono (CT_le (Nat.le_max_left n n')) (c := CT n) h1
    rw [e1]
    simp only
    rw [if_neg (by rw [hcond]; simp), dOps_mono (CT_le (Nat.le_max_right n n')) _ _ _ _ _ _ h]
end

/-! ### Functions -/

theorem fn_iff {f : Nat} {k : FCode} (hk : codes.get f = some k) {args : List AV} {H : Heap} {cx : Nat} {K : Out → Prop} (hn : cloneNone k args = false) (hl : args.length ≤ k.nt) :
    Fn f args H cx K ↔ W cx k.c (initA args H) cx false fun e s cx' wr => e.done = true ∧ onSome (retV s.fr s.H k.r) fun v => K ⟨v, s.H, cx', wr⟩ := by
  have go : ∀ n, CT (n + 1) f args H cx = goF pures (CT n) n k args H cx := fun n => by
    show aF pures codes (n + 1) f args H cx = _
    simp only [aF, hk, hn, Bool.false_eq_true, if_false]
  constructor
  · rintro ⟨n, o, h, q⟩
    cases n with
    | zero => cases h
    | succ n =>
      rw [go] at h
      unfold goF at h
      rw [if_pos hl] at h
      split at h
      · rename_i e s cx' wr h1
        refine W_of h1 ?_
        split at h
        · rename_i he
          refine ⟨he, ?_⟩
          split at h
          · rename_i v hv; cases h; rw [hv]; exact q
          · cases h
        · cases h
      · cases h
  · rintro ⟨n, m, e, s, cx', wr, h, he, q⟩
    unfold onSome at q
    split at q
    · rename_i v hv
      refine ⟨max n m + 1, ⟨v, s.H, cx', wr⟩, ?_, q⟩
      rw [go]
      unfold goF
      rw [if_pos hl, aC_to (Nat.le_max_left n m) (Nat.le_max_right n m) h]
      simp only
      rw [if_pos he, hv]
    · exact q.elim

/-- A PURE FUNCTION's value. -/
def Pure (f : Nat) (args : List AV) (v : AV) : Prop := Fn f args noH 0 fun o => freeze o.H depth o.v = some v ∧ v.plainN depth = true

theorem Pure.call {f : Nat} {args : List AV} {v : AV} (h : Pure f args v) (hp : pures f = true) (ha : args.all (AV.plainN depth) = true) {strict : Bool} {H : Heap} {cx : Nat} {K : Out → Prop} : WCall strict f args H cx K ↔ K ⟨v, H, cx, false⟩ := by
  obtain ⟨n, o, h1, h2, h3⟩ := h
  have key : ∀ m, n ≤ m → doCall pures (CT m) strict f args H cx = some ⟨v, H, cx, false⟩ := fun m hm => by
    unfold doCall
    rw [if_pos hp, if_pos ha, CT_le hm _ _ _ _ _ h1]
    simp only [h2, h3, if_true]
  constructor
  · rintro ⟨m, o', h', q⟩
    have e1 := key (max n m) (Nat.le_max_left n m)
    have e2 := doCall_mono (CT_le (Nat.le_max_right n m)) h'
    rw [e1] at e2; cases e2; exact q
  · exact fun q => ⟨n, _, key n (Nat.le_refl n), q⟩

/-- A call of the whole heap. -/
theorem WCall_fn {f : Nat} {args : List AV} (h : pures f = false ∨ args.all (AV.plainN depth) = false) {H : Heap} {cx : Nat} {K : Out → Prop} : WCall false f args H cx K ↔ Fn f args H cx K := by
  have key : ∀ n, doCall pures (CT n) false f args H cx = CT n f args H cx := fun n => by
    unfold doCall
    rcases h with h | h
    · rw [h]; simp
    · rw [h]; simp
  simp only [WCall, Fn, key]

theorem Fn.mono {f : Nat} {args : List AV} {H : Heap} {cx : Nat} {K K' : Out → Prop} (h : Fn f args H cx K) (hk : ∀ o, K o → K' o) : Fn f args H cx K' := let ⟨n, o, h1, h2⟩ := h; ⟨n, o, h1, hk o h2⟩

theorem freeze_plain' {H : Heap} {a : AV} (n : Nat) (h : a.plainN (n + 1) = true) : freeze H (n + 1) a = some a := by
  simp only [freeze]
  rw [if_pos h]

theorem freeze_plain {H : Heap} {a : AV} (h : a.plainN depth = true) : freeze H depth a = some a := freeze_plain' 23 h

end Go.Proofs.YtfhflogbffibiaaGreat
