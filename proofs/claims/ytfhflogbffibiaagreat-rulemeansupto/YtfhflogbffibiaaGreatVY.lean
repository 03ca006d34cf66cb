/-
  The machine over tries, for the kernel; it says what the machine says.
-/
import Derived.Test.YtfhflogbffibiaaGreatVX
namespace Go.Proofs.YtfhflogbffibiaaGreat
open Go
set_option linter.unusedSimpArgs false
set_option linter.unusedVariables false

structure StM where
  fr : Map AV
  H : Map HO

def frM (m : Map AV) : Nat → AV := fun t => match m.get t with
  | some a => a
  | none => .any

def StM.abs (m : StM) : St := { fr := frM m.fr, H := m.H.get }

def setH (H : Map HO) : List (Nat × HO) → Map HO
  | [] => H
  | (nm, o) :: r => setH (H.set nm o) r

def setF (fr : Map AV) (d : Option Nat) (v : AV) : Map AV :=
  match d with
  | none => fr
  | some d => fr.set d v

structure OutM where
  v : AV
  H : Map HO
  cx : Nat
  wr : Bool

def OutM.abs (o : OutM) : Out := ⟨o.v, o.H.get, o.cx, o.wr⟩

abbrev CallM := Nat → List AV → Map HO → Nat → Option OutM

def mCall (pures : Nat → Bool) (call : CallM) (strict : Bool) (f : Nat) (args : List AV) (H : Map HO) (cx : Nat) : Option OutM :=
  if pures f then
    if args.all (AV.plainN depth) then
      match call f args .leaf 0 with
      | some o => match freeze o.H.get depth o.v with
        | some v => if v.plainN depth then some ⟨v, H, cx, false⟩ else none
        | none => none
      | none => none
    else if strict then none else call f args H cx
  else call f args H cx

def mGo (pures : Nat → Bool) (call : CallM) (strict : Bool) (base nm : Nat) (r : LOpr) (s : StM) (cx : Nat) : Option (StM × Nat × Bool) :=
  match r.op with
  | .call f args => match mCall pures call false f (evs (frM s.fr) args) s.H cx with
    | some o => some (⟨setF s.fr r.d o.v, o.H⟩, o.cx, o.wr)
    | none => none
  | .kcall f args => match mCall pures call false f (evs (frM s.fr) args) s.H cx with
    | some o => some (⟨setF s.fr r.d o.v, o.H⟩, o.cx, o.wr)
    | none => none
  | .pcall f args => match mCall pures call true f (evs (frM s.fr) args) s.H cx with
    | some o => if pures f then some (⟨setF s.fr r.d o.v, o.H⟩, o.cx, o.wr) else none
    | none => none
  | .callv x args => match x.ev (frM s.fr) with
    | .fn f caps => match mCall pures call false f (evs (frM s.fr) args ++ caps) s.H cx with
      | some o => some (⟨setF s.fr r.d o.v, o.H⟩, o.cx, o.wr)
      | none => none
    | _ => none
  | op => match op.run nm (frM s.fr) s.H.get with
    | some (v, ws) => some (⟨setF s.fr r.d v, setH s.H ws⟩, cx, wrB base ws)
    | none => none

def mOp (pures : Nat → Bool) (call : CallM) (strict : Bool) (base nm : Nat) (r : LOpr) (s : StM) (cx : Nat) : Option (StM × Nat × Bool) :=
  match r.g with
  | none => mGo pures call strict base nm r s cx
  | some (t, p) => match frM s.fr t with
    | .bool b => if b == p then mGo pures call strict base nm r s cx else some ({ s with fr := setF s.fr r.d undefAV }, cx, false)
    | .raw (.tuple _) => some ({ s with fr := setF s.fr r.d undefAV }, cx, false)
    | _ => none

def mOps (pures : Nat → Bool) (call : CallM) (base : Nat) : Nat → List LOpr → StM → Nat → Bool → Option (StM × Nat × Bool)
  | _, [], s, cx, wr => some (s, cx, wr)
  | nm, r :: rs, s, cx, wr => match mOp pures call false base nm r s cx with
    | some (s', cx', wr') => mOps pures call base (nm + 1) rs s' cx' (wr || wr')
    | none => none

def mdOps (pures : Nat → Bool) (call : CallM) (base c0 : Nat) : Nat → List LOpr → StM → Nat → Bool → Option (StM × Nat × Bool × List (List Nat))
  | _, [], s, cx, wr => some (s, cx, wr, [])
  | i, r :: rs, s, cx, wr => match mOp pures call true base (c0 + i) r s cx with
    | some (s', cx', wr') =>
      let t := r.op.tops (c0 + i) (frM s.fr)
      if (decide (r.op.cls pures = .L) && !(t.all fun q => Nat.blt q c0)) || (decide (r.op.cls pures = .C) && wr') then none else
        match mdOps pures call base c0 (i + 1) rs s' cx' (wr || wr') with
        | some (s2, cx2, wr2, ts) => some (s2, cx2, wr2, t :: ts)
        | none => none
    | none => none

abbrev CResM := Option (Ex × StM × Nat × Bool)

def mC (pures : Nat → Bool) (call : CallM) (base : Nat) : Nat → LCode → StM → Nat → Bool → CResM
  | 0, _, _, _, _ => none
  | _ + 1, .skip, s, cx, wr => some (.normal, s, cx, wr)
  | _ + 1, .reg rs, s, cx, wr => match mOps pures call base cx rs s (cx + rs.length) wr with
    | some (s', cx', wr') => some (.normal, s', cx', wr')
    | none => none
  | _ + 1, .dreg dyn rs, s, cx, wr => match mdOps pures call base cx 0 rs s (cx + rs.length) wr with
    | some (s', cx', wr', ts) => if dyn.all (fun p => disj (ts.getD p.1 []) (ts.getD p.2 [])) then some (.normal, s', cx', wr') else none
    | none => none
  | n + 1, .seq a b, s, cx, wr => match mC pures call base n a s cx wr with
    | some (.normal, s', cx', wr') => mC pures call base n b s' cx' wr'
    | r => r
  | n + 1, .cond c a b, s, cx, wr => match c.ev (frM s.fr) with
    | .bool c => if c then mC pures call base n a s cx wr else mC pures call base n b s cx wr
    | _ => none
  | n + 1, .block id c, s, cx, wr => match mC pures call base n c s cx wr with
    | some (.exit id', s', cx', wr') => if id' = id then some (.normal, s', cx', wr') else some (.exit id', s', cx', wr')
    | r => r
  | n + 1, .loop c, s, cx, wr => match mC pures call base n c s cx wr with
    | some (.normal, s', cx', wr') => mC pures call base n (.loop c) s' cx' wr'
    | r => r
  | _ + 1, .exit id, s, cx, wr => some (.exit id, s, cx, wr)
  | _ + 1, .ret, s, cx, wr => some (.ret, s, cx, wr)
  | n + 1, .scope c, s, cx, wr => match mC pures call base n c s cx wr with
    | some (.goto l, s', cx', wr') => match labelL c l with
      | some c' => match mC pures call base n c' s' cx' wr' with
        | some (.goto _, _, _, _) => none
        | r => r
      | none => none
    | r => r
  | _ + 1, .label _, s, cx, wr => some (.normal, s, cx, wr)
  | _ + 1, .goto l, s, cx, wr => some (.goto l, s, cx, wr)

def initF : Nat → List AV → Map AV
  | _, [] => .leaf
  | i, x :: r => (initF (i + 1) r).set i x

def mGoF (pures : Nat → Bool) (call : CallM) (n : Nat) (k : FCode) (args : List AV) (H : Map HO) (cx : Nat) : Option OutM :=
  if args.length ≤ k.nt then
    match mC pures call cx n k.c ⟨initF 0 args, H⟩ cx false with
    | some (e, s, cx', wr) => if e.done then
        match retV (frM s.fr) s.H.get k.r with
        | some v => some ⟨v, s.H, cx', wr⟩
        | none => none
      else none
    | none => none
  else none

/-- n: the depth of calls; m: the rounds and the depth of code. -/
def mF (pures : Nat → Bool) (codes : Codes) (m : Nat) : Nat → CallM
  | 0 => fun _ _ _ _ => none
  | n + 1 => fun f args H cx => match codes.get f with
    | some k => if cloneNone k args then some ⟨.ro (k.clone.getD 0) [] true, H, cx, false⟩ else mGoF pures (mF pures codes m n) m k args H cx
    | none => none

/-! ### It says the same -/

theorem abs_setF (fr : Map AV) (d : Option Nat) (v : AV) : frM (setF fr d v) = updF (frM fr) d v := by
  cases d with
  | none => rfl
  | some d =>
    funext t
    simp only [frM, setF, updF, upd, Map.get_set]
    by_cases h : t = d <;> simp [h]

theorem abs_set1 (H : Map HO) (nm : Nat) (o : HO) : (H.set nm o).get = upd H.get nm (some o) := by
  funext t
  simp only [upd, Map.get_set]

theorem abs_setH : ∀ (ws : List (Nat × HO)) (H : Map HO), (setH H ws).get = updH H.get ws
  | [], _ => rfl
  | (nm, o) :: r, H => by simp only [setH, updH]; rw [abs_setH r, abs_set1]

theorem get_leaf {α : Type} : (Map.leaf : Map α).get = fun _ => none := by funext t; rfl

theorem get_initF : ∀ (i : Nat) (args : List AV) (t : Nat), (initF i args).get t = if i ≤ t then args[t - i]? else none
  | i, [], t => by simp [initF, get_leaf]
  | i, x :: r, t => by
    simp only [initF, Map.get_set, get_initF (i + 1) r t]
    by_cases h : t = i
    · subst h; simp
    · by_cases h2 : i ≤ t
      · have h3 : i + 1 ≤ t := by omega
        simp only [h, h2, h3, if_true, if_false]
        rw [show t - i = (t - (i + 1)) + 1 by omega, List.getElem?_cons_succ]
      · simp [h, h2, show ¬ (i + 1 ≤ t) by omega]

theorem abs_initF (args : List AV) (H : Map HO) : (StM.mk (initF 0 args) H).abs = initA args H.get := by
  simp only [StM.abs, initA, St.mk.injEq, and_true]
  funext t
  simp only [frM, get_initF, Nat.zero_le, if_true, Nat.sub_zero, List.getD_eq_getElem?_getD]
  cases args[t]? <;> rfl

/-- A machine's answer is the abstract machine's too. -/
def CallSim (cm : CallM) (ca : CallA) : Prop := ∀ f args H cx o, cm f args H cx = some o → ca f args H.get cx = some o.abs

section
variable {pures : Nat → Bool} {cm : CallM} {ca : CallA} {base : Nat}

theorem mCall_sim (hs : CallSim cm ca) {strict : Bool} {f : Nat} {args : List AV} {H : Map HO} {cx : Nat} {o : OutM} (h : mCall pures cm strict f args H cx = some o) : doCall pures ca strict f args H.get cx = some o.abs := by
  unfold mCall at h
  unfold doCall
  split at h
  · rename_i hp
    rw [if_pos hp]
    split at h
    · rename_i ha
      rw [if_pos ha]
      split at h
      · rename_i o' ho
        have := hs _ _ _ _ _ ho
        rw [get_leaf] at this
        rw [show noH = fun _ => none from rfl, this]
        simp only [OutM.abs]
        split at h
        · rename_i v hv
          rw [hv]
          simp only
          split at h
          · rename_i hpl
            cases h
            rw [if_pos hpl]
          · cases h
        · cases h
      · cases h
    · rename_i ha
      rw [if_neg ha]
      split at h
      · cases h
      · rename_i hst
        rw [if_neg hst]
        exact hs _ _ _ _ _ h
  · rename_i hp
    rw [if_neg hp]
    exact hs _ _ _ _ _ h

def absR : StM × Nat × Bool → St × Nat × Bool := fun (s, cx, wr) => (s.abs, cx, wr)

theorem mGo_sim (hs : CallSim cm ca) {strict : Bool} {nm : Nat} {r : LOpr} {s : StM} {cx : Nat} {x : StM × Nat × Bool} (h : mGo pures cm strict base nm r s cx = some x) : aGo pures ca strict base nm r s.abs cx = some (absR x) := by
  unfold mGo at h
  unfold aGo
  split at h
  · rename_i f args hop
    simp only [StM.abs, hop]
    split at h
    · rename_i o ho
      cases h
      rw [mCall_sim hs ho]
      simp only [absR, StM.abs, abs_setF, OutM.abs]
    · cases h
  · rename_i f args hop
    simp only [StM.abs, hop]
    split at h
    · rename_i o ho
      cases h
      rw [mCall_sim hs ho]
      simp only [absR, StM.abs, abs_setF, OutM.abs]
    · cases h
  · rename_i f args hop
    simp only [StM.abs, hop]
    split at h
    · rename_i o ho
      split at h
      · rename_i hf
        cases h
        rw [mCall_sim hs ho]
        simp only [hf, if_true, absR, StM.abs, abs_setF, OutM.abs]
      · cases h
    · cases h
  · rename_i y args hop
    simp only [StM.abs, hop]
    split at h
    · rename_i f caps hx
      rw [hx]
      simp only
      split at h
      · rename_i o ho
        cases h
        rw [mCall_sim hs ho]
        simp only [absR, StM.abs, abs_setF, OutM.abs]
      · cases h
    · cases h
  · rename_i h1 h4 h3 h2
    split at h
    · rename_i v ws hr
      cases h
      split
      · rename_i f args e; exact absurd e (h1 f args)
      · rename_i f args e; exact absurd e (h4 f args)
      · rename_i f args e; exact absurd e (h3 f args)
      · rename_i y args e; exact absurd e (h2 y args)
      · simp only [StM.abs]
        rw [hr]
        simp only [absR, StM.abs, abs_setF, abs_setH, St.app]
    · cases h

theorem mOp_sim (hs : CallSim cm ca) {strict : Bool} {nm : Nat} {r : LOpr} {s : StM} {cx : Nat} {x : StM × Nat × Bool} (h : mOp pures cm strict base nm r s cx = some x) : aOp pures ca strict base nm r s.abs cx = some (absR x) := by
  unfold mOp at h
  unfold aOp
  split at h
  · rename_i hg; simp only [hg]; exact mGo_sim hs h
  · rename_i t p hg
    simp only [StM.abs, hg]
    split at h
    · rename_i b hb
      rw [hb]
      simp only
      split at h
      · rename_i hbp; rw [if_pos hbp]; exact mGo_sim hs h
      · rename_i hbp; cases h; rw [if_neg hbp]; simp only [absR, StM.abs, abs_setF]
    · rename_i vs hb
      rw [hb]
      cases h; simp only [absR, StM.abs, abs_setF]
    · cases h

theorem mOps_sim (hs : CallSim cm ca) : ∀ (rs : List LOpr) (nm : Nat) (s : StM) (cx : Nat) (wr : Bool) (x : StM × Nat × Bool), mOps pures cm base nm rs s cx wr = some x → aOps pures ca base nm rs s.abs cx wr = some (absR x)
  | [], nm, s, cx, wr, x, h => by cases h; rfl
  | r :: rs, nm, s, cx, wr, x, h => by
    simp only [mOps] at h
    split at h
    · rename_i s' cx' wr' h1
      simp only [aOps]
      rw [mOp_sim hs h1]
      exact mOps_sim hs rs _ _ _ _ _ h
    · cases h

theorem mdOps_sim (hs : CallSim cm ca) {c0 : Nat} : ∀ (rs : List LOpr) (i : Nat) (s : StM) (cx : Nat) (wr : Bool) (s' : StM) (cx' : Nat) (wr' : Bool) (ts : List (List Nat)), mdOps pures cm base c0 i rs s cx wr = some (s', cx', wr', ts) → dOps pures ca base c0 i rs s.abs cx wr = some (s'.abs, cx', wr', ts)
  | [], i, s, cx, wr, _, _, _, _, h => by cases h; rfl
  | r :: rs, i, s, cx, wr, s', cx', wr', ts, h => by
    simp only [mdOps] at h
    split at h
    · rename_i s1 cx1 wr1 h1
      simp only [dOps]
      rw [mOp_sim hs h1]
      simp only [absR, StM.abs]
      split at h
      · cases h
      · rename_i hcond
        split at h
        · rename_i s2 cx2 wr2 ts2 h2
          cases h
          have := mdOps_sim hs rs _ _ _ _ _ _ _ _ h2
          simp only [StM.abs] at this
          rw [this]
          exact if_neg hcond
        · cases h
    · cases h

def absX : Ex × StM × Nat × Bool → Ex × St × Nat × Bool := fun (e, s, cx, wr) => (e, s.abs, cx, wr)

theorem mC_sim (hs : CallSim cm ca) : ∀ (k : Nat) (lc : LCode) (s : StM) (cx : Nat) (wr : Bool) (x : Ex × StM × Nat × Bool), mC pures cm base k lc s cx wr = some x → aC pures ca base k lc s.abs cx wr = some (absX x)
  | 0, _, _, _, _, _, h => by cases h
  | k + 1, .skip, s, cx, wr, x, h => by cases h; rfl
  | k + 1, .reg rs, s, cx, wr, x, h => by
    simp only [mC] at h
    split at h
    · rename_i s1 cx1 wr1 h1
      cases h
      simp only [aC, mOps_sim hs _ _ _ _ _ _ h1, absR, absX]
    · cases h
  | k + 1, .dreg dyn rs, s, cx, wr, x, h => by
    simp only [mC] at h
    split at h
    · rename_i s1 cx1 wr1 ts h1
      split at h
      · rename_i hd
        cases h
        simp only [aC, mdOps_sim hs _ _ _ _ _ _ _ _ _ h1, if_pos hd, absX]
      · cases h
    · cases h
  | k + 1, .seq a b, s, cx, wr, x, h => by
    simp only [mC] at h
    split at h
    · rename_i s1 cx1 wr1 h1
      have e1 := mC_sim hs k a _ _ _ _ h1
      simp only [absX] at e1
      simp only [aC, e1]
      exact mC_sim hs k b _ _ _ _ h
    · rename_i hne
      have e1 := mC_sim hs k a _ _ _ _ h
      obtain ⟨e, s1, cx1, wr1⟩ := x
      simp only [absX] at e1
      simp only [aC, e1, absX]
      cases e with
      | normal => exact absurd h (hne _ _ _)
      | exit id => rfl
      | ret => rfl
      | goto l => rfl
  | k + 1, .cond c a b, s, cx, wr, x, h => by
    simp only [mC] at h
    simp only [aC, StM.abs]
    split at h
    · rename_i bb hb
      rw [hb]
      simp only
      split at h
      · rename_i ht; rw [if_pos ht]; exact mC_sim hs k a _ _ _ _ h
      · rename_i ht; rw [if_neg ht]; exact mC_sim hs k b _ _ _ _ h
    · cases h
  | k + 1, .block id c, s, cx, wr, x, h => by
    simp only [mC] at h
    split at h
    · rename_i id' s1 cx1 wr1 h1
      have e1 := mC_sim hs k c _ _ _ _ h1
      simp only [absX] at e1
      simp only [aC, e1]
      split at h
      · rename_i hid; cases h; rw [if_pos hid]; rfl
      · rename_i hid; cases h; rw [if_neg hid]; rfl
    · rename_i hne
      have e1 := mC_sim hs k c _ _ _ _ h
      obtain ⟨e, s1, cx1, wr1⟩ := x
      simp only [absX] at e1
      simp only [aC, e1, absX]
      cases e with
      | exit id => exact absurd h (hne _ _ _ _)
      | normal => rfl
      | ret => rfl
      | goto l => rfl
  | k + 1, .loop c, s, cx, wr, x, h => by
    simp only [mC] at h
    split at h
    · rename_i s1 cx1 wr1 h1
      have e1 := mC_sim hs k c _ _ _ _ h1
      simp only [absX] at e1
      simp only [aC, e1]
      exact mC_sim hs k (.loop c) _ _ _ _ h
    · rename_i hne
      have e1 := mC_sim hs k c _ _ _ _ h
      obtain ⟨e, s1, cx1, wr1⟩ := x
      simp only [absX] at e1
      simp only [aC, e1, absX]
      cases e with
      | normal => exact absurd h (hne _ _ _)
      | exit id => rfl
      | ret => rfl
      | goto l => rfl
  | k + 1, .exit id, s, cx, wr, x, h => by cases h; rfl
  | k + 1, .ret, s, cx, wr, x, h => by cases h; rfl
  | k + 1, .label l, s, cx, wr, x, h => by cases h; rfl
  | k + 1, .goto l, s, cx, wr, x, h => by cases h; rfl
  | k + 1, .scope c, s, cx, wr, x, h => by
    simp only [mC] at h
    split at h
    · rename_i l s1 cx1 wr1 h1
      have e1 := mC_sim hs k c _ _ _ _ h1
      simp only [absX] at e1
      simp only [aC, e1]
      split at h
      · rename_i c' hl
        rw [hl]
        simp only
        split at h
        · cases h
        · rename_i hne
          have e2 := mC_sim hs k c' _ _ _ _ h
          obtain ⟨e, s2, cx2, wr2⟩ := x
          simp only [absX] at e2
          simp only [e2, absX]
          cases e with
          | goto l => exact absurd h (hne _ _ _ _)
          | normal => rfl
          | ret => rfl
          | exit id => rfl
      · cases h
    · rename_i hne
      have e1 := mC_sim hs k c _ _ _ _ h
      obtain ⟨e, s1, cx1, wr1⟩ := x
      simp only [absX] at e1
      simp only [aC, e1, absX]
      cases e with
      | goto l => exact absurd h (hne _ _ _ _)
      | normal => rfl
      | ret => rfl
      | exit id => rfl

theorem mGoF_sim (hs : CallSim cm ca) {n : Nat} {k : FCode} {args : List AV} {H : Map HO} {cx : Nat} {o : OutM} (h : mGoF pures cm n k args H cx = some o) : goF pures ca n k args H.get cx = some o.abs := by
  unfold mGoF at h
  unfold goF
  split at h
  case isFalse => cases h
  rename_i hlen
  rw [if_pos hlen]
  split at h
  case h_2 => cases h
  rename_i e s cx' wr hc
  have := mC_sim hs n k.c _ _ _ _ hc
  rw [abs_initF] at this
  rw [this]
  simp only [absX]
  split at h
  case isFalse => cases h
  rename_i he
  refine (if_pos he).trans ?_
  split at h
  case h_2 => cases h
  rename_i v hv
  cases h
  simp only [StM.abs]
  rw [hv]
  rfl
end

/-! ### More rounds, the same answer -/

def CallLe (c c' : CallA) : Prop := ∀ f args H cx o, c f args H cx = some o → c' f args H cx = some o

section
variable {pures : Nat → Bool} {c c' : CallA} {base : Nat}

theorem doCall_mono (hc : CallLe c c') {strict : Bool} {f : Nat} {args : List AV} {H : Heap} {cx : Nat} {o : Out} (h : doCall pures c strict f args H cx = some o) : doCall pures c' strict f args H cx = some o := by
  unfold doCall at h ⊢
  split at h
  · rename_i hp
    rw [if_pos hp]
    split at h
    · rename_i ha
      rw [if_pos ha]
      split at h
      · rename_i o' ho
        rw [hc _ _ _ _ _ ho]
        exact h
      · cases h
    · rename_i ha
      rw [if_neg ha]
      split at h
      · cases h
      · rename_i hst
        rw [if_neg hst]
        exact hc _ _ _ _ _ h
  · rename_i hp
    rw [if_neg hp]
    exact hc _ _ _ _ _ h

theorem aGo_mono (hc : CallLe c c') {strict : Bool} {nm : Nat} {r : LOpr} {s : St} {cx : Nat} {x : St × Nat × Bool} (h : aGo pures c strict base nm r s cx = some x) : aGo pures c' strict base nm r s cx = some x := by
  unfold aGo at h ⊢
  split at h
  · split at h
    · rename_i o ho; rw [doCall_mono hc ho]; exact h
    · cases h
  · split at h
    · rename_i o ho; rw [doCall_mono hc ho]; exact h
    · cases h
  · split at h
    · rename_i o ho; rw [doCall_mono hc ho]; exact h
    · cases h
  · split at h
    · rename_i f caps hx
      split at h
      · rename_i o ho; rw [doCall_mono hc ho]; exact h
      · cases h
    · cases h
  · exact h

theorem aOp_mono (hc : CallLe c c') {strict : Bool} {nm : Nat} {r : LOpr} {s : St} {cx : Nat} {x : St × Nat × Bool} (h : aOp pures c strict base nm r s cx = some x) : aOp pures c' strict base nm r s cx = some x := by
  unfold aOp at h ⊢
  split at h
  · exact aGo_mono hc h
  · split at h
    · split at h
      · rename_i hb; rw [if_pos hb]; exact aGo_mono hc h
      · rename_i hb; rw [if_neg hb]; exact h
    · exact h
    · cases h

theorem aOps_mono (hc : CallLe c c') : ∀ (rs : List LOpr) (nm : Nat) (s : St) (cx : Nat) (wr : Bool) (x : St × Nat × Bool), aOps pures c base nm rs s cx wr = some x → aOps pures c' base nm rs s cx wr = some x
  | [], _, _, _, _, _, h => h
  | r :: rs, nm, s, cx, wr, x, h => by
    simp only [aOps] at h ⊢
    split at h
    · rename_i s' cx' wr' h1
      rw [aOp_mono hc h1]
      exact aOps_mono hc rs _ _ _ _ _ h
    · cases h

theorem dOps_mono (hc : CallLe c c') {c0 : Nat} : ∀ (rs : List LOpr) (i : Nat) (s : St) (cx : Nat) (wr : Bool) (x : St × Nat × Bool × List (List Nat)), dOps pures c base c0 i rs s cx wr = some x → dOps pures c' base c0 i rs s cx wr = some x
  | [], _, _, _, _, _, h => h
  | r :: rs, i, s, cx, wr, x, h => by
    simp only [dOps] at h ⊢
    split at h
    · rename_i s' cx' wr' h1
      rw [aOp_mono hc h1]
      simp only
      split at h
      · cases h
      · rename_i hcond
        refine (if_neg hcond).trans ?_
        split at h
        · rename_i s2 cx2 wr2 ts2 h2
          rw [dOps_mono hc rs _ _ _ _ _ h2]
          exact h
        · cases h
    · cases h

theorem aC_mono (hc : CallLe c c') : ∀ (k k' : Nat) (lc : LCode) (s : St) (cx : Nat) (wr : Bool) (x : Ex × St × Nat × Bool), k ≤ k' → aC pures c base k lc s cx wr = some x → aC pures c' base k' lc s cx wr = some x
  | 0, _, _, _, _, _, _, _, h => by cases h
  | k + 1, 0, _, _, _, _, _, hk, _ => by omega
  | k + 1, k' + 1, .skip, s, cx, wr, x, hk, h => h
  | k + 1, k' + 1, .exit id, s, cx, wr, x, hk, h => h
  | k + 1, k' + 1, .ret, s, cx, wr, x, hk, h => h
  | k + 1, k' + 1, .label l, s, cx, wr, x, hk, h => h
  | k + 1, k' + 1, .goto l, s, cx, wr, x, hk, h => h
  | k + 1, k' + 1, .reg rs, s, cx, wr, x, hk, h => by
    simp only [aC] at h ⊢
    split at h
    · rename_i s1 cx1 wr1 h1
      rw [aOps_mono hc _ _ _ _ _ _ h1]; exact h
    · cases h
  | k + 1, k' + 1, .dreg dyn rs, s, cx, wr, x, hk, h => by
    simp only [aC] at h ⊢
    split at h
    · rename_i s1 cx1 wr1 ts h1
      rw [dOps_mono hc _ _ _ _ _ _ h1]; exact h
    · cases h
  | k + 1, k' + 1, .seq a b, s, cx, wr, x, hk, h => by
    simp only [aC] at h ⊢
    split at h
    · rename_i s1 cx1 wr1 h1
      rw [aC_mono hc k k' a _ _ _ _ (by omega) h1]
      exact aC_mono hc k k' b _ _ _ _ (by omega) h
    · rename_i hne
      rw [aC_mono hc k k' a _ _ _ _ (by omega) h]
      obtain ⟨e, s1, cx1, wr1⟩ := x
      cases e with
      | normal => exact absurd h (hne _ _ _)
      | exit id => rfl
      | ret => rfl
      | goto l => rfl
  | k + 1, k' + 1, .cond co a b, s, cx, wr, x, hk, h => by
    simp only [aC] at h ⊢
    split at h
    · split at h
      · rename_i ht; rw [if_pos ht]; exact aC_mono hc k k' a _ _ _ _ (by omega) h
      · rename_i ht; rw [if_neg ht]; exact aC_mono hc k k' b _ _ _ _ (by omega) h
    · cases h
  | k + 1, k' + 1, .block id a, s, cx, wr, x, hk, h => by
    simp only [aC] at h ⊢
    split at h
    · rename_i id' s1 cx1 wr1 h1
      rw [aC_mono hc k k' a _ _ _ _ (by omega) h1]
      exact h
    · rename_i hne
      rw [aC_mono hc k k' a _ _ _ _ (by omega) h]
      obtain ⟨e, s1, cx1, wr1⟩ := x
      cases e with
      | exit id => exact absurd h (hne _ _ _ _)
      | normal => rfl
      | ret => rfl
      | goto l => rfl
  | k + 1, k' + 1, .loop a, s, cx, wr, x, hk, h => by
    simp only [aC] at h ⊢
    split at h
    · rename_i s1 cx1 wr1 h1
      rw [aC_mono hc k k' a _ _ _ _ (by omega) h1]
      exact aC_mono hc k k' (.loop a) _ _ _ _ (by omega) h
    · rename_i hne
      rw [aC_mono hc k k' a _ _ _ _ (by omega) h]
      obtain ⟨e, s1, cx1, wr1⟩ := x
      cases e with
      | normal => exact absurd h (hne _ _ _)
      | exit id => rfl
      | ret => rfl
      | goto l => rfl
  | k + 1, k' + 1, .scope a, s, cx, wr, x, hk, h => by
    simp only [aC] at h ⊢
    split at h
    · rename_i l s1 cx1 wr1 h1
      rw [aC_mono hc k k' a _ _ _ _ (by omega) h1]
      simp only
      split at h
      · rename_i c2 hl
        split at h
        · cases h
        · rename_i hne
          rw [aC_mono hc k k' c2 _ _ _ _ (by omega) h]
          obtain ⟨e, s1, cx1, wr1⟩ := x
          cases e with
          | goto l => exact absurd h (hne _ _ _ _)
          | normal => rfl
          | exit id => rfl
          | ret => rfl
      · cases h
    · rename_i hne
      rw [aC_mono hc k k' a _ _ _ _ (by omega) h]
      obtain ⟨e, s1, cx1, wr1⟩ := x
      cases e with
      | goto l => exact absurd h (hne _ _ _ _)
      | normal => rfl
      | exit id => rfl
      | ret => rfl

theorem goF_mono (hc : CallLe c c') {k k' : Nat} (hk : k ≤ k') {fc : FCode} {args : List AV} {H : Heap} {cx : Nat} {o : Out} (h : goF pures c k fc args H cx = some o) : goF pures c' k' fc args H cx = some o := by
  unfold goF at h ⊢
  split at h
  · rename_i hl
    rw [if_pos hl]
    split at h
    · rename_i e s cx' wr h1
      rw [aC_mono hc k k' _ _ _ _ _ hk h1]
      exact h
    · cases h
  · cases h

theorem aF_step {codes : Codes} : ∀ n, CallLe (aF pures codes n) (aF pures codes (n + 1))
  | 0 => fun f args H cx o h => by cases h
  | n + 1 => fun f args H cx o h => by
    simp only [aF] at h ⊢
    split at h
    · split at h
      · rename_i hcn; rw [if_pos hcn]; exact h
      · rename_i hcn; rw [if_neg hcn]; exact goF_mono (aF_step n) (by omega) h
    · cases h

theorem aF_mono {codes : Codes} {n m : Nat} (h : n ≤ m) : CallLe (aF pures codes n) (aF pures codes m) := by
  induction h with
  | refl => exact fun _ _ _ _ _ h => h
  | step _ ih => exact fun f args H cx o h => aF_step _ _ _ _ _ _ (ih _ _ _ _ _ h)

/-- THE MACHINE OVER TRIES says what the machine says. -/
theorem mF_sim {codes : Codes} {m : Nat} : ∀ n, CallSim (mF pures codes m n) (aF pures codes (m + n))
  | 0 => fun f args H cx o h => by cases h
  | n + 1 => fun f args H cx o h => by
    rw [← Nat.add_assoc]
    simp only [mF] at h
    simp only [aF]
    split at h
    · rename_i k hk
      rw [hk]
      simp only
      split at h
      · rename_i hcn; cases h; rw [if_pos hcn]; rfl
      · rename_i hcn; rw [if_neg hcn]; exact goF_mono (fun _ _ _ _ _ h => h) (by omega) (mGoF_sim (mF_sim n) h)
    · cases h
end

end Go.Proofs.YtfhflogbffibiaaGreat
