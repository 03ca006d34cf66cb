/-
  Walks over the machine: each operation.
-/
import Derived.Test.YtfhflogbffibiaaGreatWA
namespace Go.Proofs.YtfhflogbffibiaaGreat
open Go
set_option linter.unusedSimpArgs false
set_option linter.unusedVariables false

section
variable {base nm cx : Nat} {s : St} {d : Option Nat} {K : St → Nat → Bool → Prop}

theorem WGo_mv {x : LA} : WGo base nm d (.mv x) s cx K ↔ K ⟨updF s.fr d (x.ev s.fr), s.H⟩ cx false := by rw [WGo_run rfl]; rfl
theorem WGo_pick {c a b : LA} : WGo base nm d (.pick c a b) s cx K ↔ onBool (c.ev s.fr) fun v => K ⟨updF s.fr d (if v then a.ev s.fr else b.ev s.fr), s.H⟩ cx false := by
  rw [WGo_run rfl]; simp only [LOp.run]; cases c.ev s.fr <;> rfl
theorem wrB_one {p : Nat × HO} : wrB base [p] = Nat.blt p.1 base := by simp only [wrB, List.any_cons, List.any_nil, Bool.or_false]
theorem WGo_alloc {zs : List AV} : WGo base nm d (.alloc zs) s cx K ↔ s.H nm = none ∧ K ⟨updF s.fr d (.np nm 0), upd s.H nm (some (.blk zs))⟩ cx (Nat.blt nm base) := by
  rw [WGo_run rfl]; simp only [LOp.run, ifNew]
  cases h : s.H nm with
  | none => simp only [onSome, wrB_one]; exact ⟨fun h => ⟨trivial, h⟩, fun h => h.2⟩
  | some o => simp [onSome]
theorem WGo_box {x : LA} : WGo base nm d (.box x) s cx K ↔ onSome ((x.ev s.fr).cells) fun cs => s.H nm = none ∧ K ⟨updF s.fr d (.np nm 0), upd s.H nm (some (.blk cs))⟩ cx (Nat.blt nm base) := by
  rw [WGo_run rfl]; simp only [LOp.run, ifNew]
  cases (x.ev s.fr).cells with
  | none => rfl
  | some cs =>
    simp only [Option.bind_some]
    cases h : s.H nm with
    | none => simp only [onSome, wrB_one]; exact ⟨fun h => ⟨trivial, h⟩, fun h => h.2⟩
    | some o => simp [onSome]
theorem onSome_map {α β : Type} {x : Option α} {f : α → β} {k : β → Prop} : onSome (x.map f) k ↔ onSome x fun a => k (f a) := by cases x <;> rfl
theorem WGo_build {zs : List AV} {ps : List (Nat × Nat × LA)} : WGo base nm d (.build zs ps) s cx K ↔ onSome (fillV s.fr zs ps) fun cs => K ⟨updF s.fr d (.agg cs), s.H⟩ cx false := by
  rw [WGo_run rfl]; simp only [LOp.run, onSome_map]; rfl
theorem WGo_mks {E : Nat} {ps : List LA} : WGo base nm d (.mks E ps) s cx K ↔ onSome (partsV s.fr E ps) fun xs => K ⟨updF s.fr d (.ro E xs true), s.H⟩ cx false := by
  rw [WGo_run rfl]; simp only [LOp.run, onSome_map]; rfl
theorem WGo_ld {x : LA} {m : Nat} {ag : Bool} : WGo base nm d (.ld x m ag) s cx K ↔ onSome (ldV s.H (x.ev s.fr) m ag) fun v => K ⟨updF s.fr d v, s.H⟩ cx false := by
  rw [WGo_run rfl]; simp only [LOp.run, onSome_map]; rfl
theorem WGo_bin {o : BinOp} {x y : LA} {m : Nat} : WGo base nm d (.bin o x y m) s cx K ↔ onSome (binV o m (x.ev s.fr) (y.ev s.fr)) fun v => K ⟨updF s.fr d v, s.H⟩ cx false := by
  rw [WGo_run rfl]; simp only [LOp.run, onSome_map]; rfl
theorem WGo_un {o : UnOp} {x : LA} : WGo base nm d (.un o x) s cx K ↔ onSome (unV o (x.ev s.fr)) fun v => K ⟨updF s.fr d v, s.H⟩ cx false := by
  rw [WGo_run rfl]; simp only [LOp.run, onSome_map]; rfl
theorem WGo_slc {E : Nat} {x : LA} {lo hi mx : Option LA} : WGo base nm d (.slc E x lo hi mx) s cx K ↔ onSome (sliceV s.fr s.H E (x.ev s.fr) lo hi mx) fun v => K ⟨updF s.fr d v, s.H⟩ cx false := by
  rw [WGo_run rfl]; simp only [LOp.run, onSome_map]; rfl
theorem WGo_ix {E : Nat} {x i : LA} : WGo base nm d (.ix E x i) s cx K ↔ onSome (ixV E (x.ev s.fr) (i.ev s.fr)) fun v => K ⟨updF s.fr d v, s.H⟩ cx false := by
  rw [WGo_run rfl]; simp only [LOp.run, onSome_map]; rfl
theorem WGo_mm {mx : Bool} {x : LA} {xs : List LA} : WGo base nm d (.mm mx x xs) s cx K ↔ onSome (mmL mx (x.ev s.fr) (xs.map (·.ev s.fr))) fun v => K ⟨updF s.fr d v, s.H⟩ cx false := by
  rw [WGo_run rfl]; simp only [LOp.run, onSome_map]; rfl
theorem WGo_len {x : LA} {ks : Bool} : WGo base nm d (.len x ks) s cx K ↔ onSome (lenV ks (x.ev s.fr)) fun n => K ⟨updF s.fr d (.int .i64 n), s.H⟩ cx false := by
  rw [WGo_run rfl]; simp only [LOp.run, onSome_map]; rfl
theorem WGo_cap {x : LA} : WGo base nm d (.cap x) s cx K ↔ onSome (capV (x.ev s.fr)) fun n => K ⟨updF s.fr d (.int .i64 n), s.H⟩ cx false := by
  rw [WGo_run rfl]; simp only [LOp.run, onSome_map]; rfl
theorem WGo_mkf {f : Nat} {cs : List LA} : WGo base nm d (.mkf f cs) s cx K ↔ K ⟨updF s.fr d (.fn f (cs.map (·.ev s.fr))), s.H⟩ cx false := by rw [WGo_run rfl]; rfl

def convV (k : IntKind) : AV → Option AV
  | .int _ n => some (.int k (k.wrap n))
  | _ => none
theorem WGo_conv {k : IntKind} {x : LA} : WGo base nm d (.conv k x) s cx K ↔ onSome (convV k (x.ev s.fr)) fun v => K ⟨updF s.fr d v, s.H⟩ cx false := by
  rw [WGo_run rfl]; simp only [LOp.run]; cases x.ev s.fr <;> rfl

def faV (o : Nat) : AV → Option AV
  | .rp cs => some (.rp (cs.drop o))
  | .np nm p => some (.np nm (p + o))
  | _ => none
theorem WGo_fa {x : LA} {o : Nat} : WGo base nm d (.fa x o) s cx K ↔ onSome (faV o (x.ev s.fr)) fun v => K ⟨updF s.fr d v, s.H⟩ cx false := by
  rw [WGo_run rfl]; simp only [LOp.run]; cases x.ev s.fr <;> rfl

def nckV : AV → Option AV
  | .rp cs => some (.rp cs)
  | .np nm o => some (.np nm o)
  | .fn f cs => some (.fn f cs)
  | _ => none
theorem WGo_nck {x : LA} : WGo base nm d (.nck x) s cx K ↔ onSome (nckV (x.ev s.fr)) fun v => K ⟨updF s.fr d v, s.H⟩ cx false := by
  rw [WGo_run rfl]; simp only [LOp.run]; cases x.ev s.fr <;> rfl

def extV (i : Nat) : AV → Option AV
  | .tup vs => vs[i]?
  | _ => none
theorem WGo_ext {x : LA} {i : Nat} : WGo base nm d (.ext x i) s cx K ↔ onSome (extV i (x.ev s.fr)) fun v => K ⟨updF s.fr d v, s.H⟩ cx false := by
  rw [WGo_run rfl]; simp only [LOp.run]
  cases x.ev s.fr <;> first | rfl | (simp only [onSome_map, extV]; rfl)

/-- A store: what it leaves of an object. -/
def stV (H : Heap) (m : Nat) (x v : AV) : Option (Nat × HO) := match x, v.cells with
  | .np nm o, some vs => match H nm with
    | some ob => match ob.cells with
      | some cs => if vs.length = m ∧ o + m ≤ cs.length then some (nm, ob.wr o vs) else none
      | none => none
    | none => none
  | _, _ => none
theorem WGo_st {x v : LA} {m : Nat} : WGo base nm d (.st x v m) s cx K ↔ onSome (stV s.H m (x.ev s.fr) (v.ev s.fr)) fun p => K ⟨updF s.fr d .any, upd s.H p.1 (some p.2)⟩ cx (Nat.blt p.1 base) := by
  have : LOp.run nm s.fr s.H (.st x v m) = (stV s.H m (x.ev s.fr) (v.ev s.fr)).map fun p => (.any, [p]) := by
    simp only [LOp.run, stV]
    cases x.ev s.fr <;> try rfl
    rename_i q o
    cases (v.ev s.fr).cells <;> try rfl
    simp only
    cases s.H q <;> try rfl
    rename_i ob
    simp only
    cases ob.cells <;> try rfl
    simp only
    split <;> rfl
  rw [WGo_run rfl, this, onSome_map]
  simp only [St.app, updH, wrB_one]

theorem WGo_app {E bytes : Nat} {x y : LA} : WGo base nm d (.app E bytes x y) s cx K ↔ onSome (appV s.H nm E bytes (x.ev s.fr) (elsV s.H E (y.ev s.fr))) fun p => K ⟨updF s.fr d p.1, updH s.H p.2⟩ cx (wrB base p.2) := by rw [WGo_run rfl]; rfl

/-- What a guard finds. -/
def onGuard (a : AV) (k : Bool → Prop) (u : Prop) : Prop := match a with
  | .bool b => k b
  | .raw (.tuple _) => u
  | _ => False

theorem onGuard_bool {b : Bool} {k : Bool → Prop} {u : Prop} : onGuard (.bool b) k u ↔ k b := Iff.rfl
theorem onGuard_undef {k : Bool → Prop} {u : Prop} : onGuard undefAV k u ↔ u := Iff.rfl

theorem WOp_gd {op : LOp} {t : Nat} {p : Bool} : WOp base nm ⟨d, op, some (t, p)⟩ s cx K ↔ onGuard (s.fr t) (fun b => WIf (b == p) (WGo base nm d op s cx K) (K ⟨updF s.fr d undefAV, s.H⟩ cx false)) (K ⟨updF s.fr d undefAV, s.H⟩ cx false) := by
  rw [WOp_guard]
  generalize s.fr t = a
  cases a with
  | bool b =>
    constructor
    · rintro (h | ⟨⟨vs, h⟩, _⟩)
      · exact h
      · cases h
    · exact .inl
  | raw v =>
    cases v with
    | tuple vs =>
      constructor
      · rintro (h | ⟨_, q⟩)
        · exact h.elim
        · exact q
      · exact fun q => .inr ⟨⟨vs, rfl⟩, q⟩
    | _ => exact ⟨fun h => (by rcases h with h | ⟨⟨vs, h⟩, _⟩ <;> first | exact h.elim | cases h), fun h => (show False from h).elim⟩
  | _ => exact ⟨fun h => (by rcases h with h | ⟨⟨vs, h⟩, _⟩ <;> first | exact h.elim | cases h), fun h => (show False from h).elim⟩

theorem WIf_eqt {b : Bool} {p q : Prop} : WIf (b == true) p q ↔ WIf b p q := by cases b <;> exact Iff.rfl
theorem WIf_eqf {b : Bool} {p q : Prop} : WIf (b == false) p q ↔ WIf b q p := by cases b <;> simp [WIf]
theorem WIf_not {b : Bool} {p q : Prop} : WIf (!b) p q ↔ WIf b q p := by cases b <;> simp [WIf]
theorem WIf_and {b c : Bool} {p q : Prop} : WIf (b && c) p q ↔ WIf b (WIf c p q) q := by cases b <;> cases c <;> simp [WIf]
theorem WIf_or {b c : Bool} {p q : Prop} : WIf (b || c) p q ↔ WIf b p (WIf c p q) := by cases b <;> cases c <;> simp [WIf]
theorem WIf_dec {P : Prop} [Decidable P] {p q : Prop} : WIf (decide P) p q ↔ (P → p) ∧ (¬ P → q) := by simp [WIf]

theorem Pure.of_plain {f : Nat} {args : List AV} {v : AV} (hv : v.plainN depth = true) (h : Fn f args noH 0 fun o => o.v = v) : Pure f args v :=
  h.mono fun o e => by rw [e]; exact ⟨freeze_plain hv, hv⟩

def isnilV : AV → Option AV
  | .ro _ (_ :: _) _ => some (.bool false)
  | .ns _ _ _ _ _ => some (.bool false)
  | .gs _ _ _ _ => some (.bool false)
  | _ => none
theorem WGo_isnil {x : LA} : WGo base nm d (.isnil x) s cx K ↔ onSome (isnilV (x.ev s.fr)) fun v => K ⟨updF s.fr d v, s.H⟩ cx false := by
  rw [WGo_run rfl]; simp only [LOp.run]
  cases x.ev s.fr <;> try rfl
  rename_i E xs c
  cases xs <;> rfl
def sixV : AV → AV → Option AV
  | .str b, .int _ n => if 0 ≤ n ∧ n < b.size then some (.int .u8 (b.data.getD n.toNat 0).toNat) else none
  | _, _ => none
theorem WGo_six {x y : LA} : WGo base nm d (.six x y) s cx K ↔ onSome (sixV (x.ev s.fr) (y.ev s.fr)) fun v => K ⟨updF s.fr d v, s.H⟩ cx false := by
  have : LOp.run nm s.fr s.H (.six x y) = (sixV (x.ev s.fr) (y.ev s.fr)).map fun v => (v, []) := by
    simp only [LOp.run, sixV]
    cases x.ev s.fr <;> cases y.ev s.fr <;> try rfl
    simp only
    split <;> rfl
  rw [WGo_run rfl, this, onSome_map]; rfl
theorem WGo_appz {E bytes : Nat} {zs : List AV} {x y : LA} : WGo base nm d (.appz E bytes zs x y) s cx K ↔ onSome (LOp.run nm s.fr s.H (.appz E bytes zs x y)) fun p => K ⟨updF s.fr d p.1, updH s.H p.2⟩ cx (wrB base p.2) := by rw [WGo_run rfl]; rfl
theorem WGo_mkz {E : Nat} {zs : List AV} {x y : LA} : WGo base nm d (.mkz E zs x y) s cx K ↔ onSome (LOp.run nm s.fr s.H (.mkz E zs x y)) fun p => K ⟨updF s.fr d p.1, updH s.H p.2⟩ cx (wrB base p.2) := by rw [WGo_run rfl]; rfl
theorem WGo_clr {zs : List AV} {x : LA} : WGo base nm d (.clr zs x) s cx K ↔ onSome (LOp.run nm s.fr s.H (.clr zs x)) fun p => K ⟨updF s.fr d p.1, updH s.H p.2⟩ cx (wrB base p.2) := by rw [WGo_run rfl]; rfl

theorem wrB_nil : wrB base [] = false := rfl
theorem wrB_zero {ws : List (Nat × HO)} : wrB 0 ws = false := by
  unfold wrB
  rw [List.any_eq_false]
  intro p _
  simp
theorem blt_zero {n : Nat} : Nat.blt n 0 = false := by cases n <;> rfl

theorem updF_some {fr : Nat → AV} {t : Nat} {v : AV} : updF fr (some t) v = upd fr t v := rfl
theorem updF_none {fr : Nat → AV} {v : AV} : updF fr none v = fr := rfl
theorem upd_app {α : Type} {f : Nat → α} {t u : Nat} {v : α} : upd f t v u = if u = t then v else f u := rfl

end

/-! ### What is still to do, as data -/

inductive KI where
  | code (c : LCode)
  | blk (id : Nat)
  | ops (nm : Nat) (rs : List LOpr)
  | op (nm : Nat) (d : Option Nat) (op : LOp)
  | gd (a : AV) (p : Bool) (nm : Nat) (d : Option Nat) (op : LOp)
  | res (x : Option AV) (d : Option Nat)
  | pick (c x y : AV) (d : Option Nat)
  | sel (a : AV) (x y : LCode)
  | call (strict : Bool) (f : Nat) (args : List AV) (d : Option Nat)
  | callv (a : AV) (args : List AV) (d : Option Nat)
  | stw (x : Option (Nat × HO)) (d : Option Nat)
  | wrs (x : Option (AV × List (Nat × HO))) (d : Option Nat)
  | new (o : Option HO) (nm : Nat) (d : Option Nat)
  | dops (dyn : List (Nat × Nat)) (c0 i : Nat) (rs : List LOpr) (ts : List (List Nat))
  | kc (f : Nat) (args : List AV) (d : Option Nat)
  | pc (f : Nat) (args : List AV) (d : Option Nat)

def Go (base : Nat) (Q : Ex → St → Nat → Bool → Prop) : List KI → Ex → St → Nat → Bool → Prop
  | [], e, s, cx, wr => Q e s cx wr
  | i :: k, .normal, s, cx, wr => match i with
    | .code c => W base c s cx wr (Go base Q k)
    | .blk _ => Go base Q k .normal s cx wr
    | .ops nm rs => WOps base nm rs s cx wr fun s cx wr => Go base Q k .normal s cx wr
    | .op nm d op => WGo base nm d op s cx fun s cx w => Go base Q k .normal s cx (wr || w)
    | .gd a p nm d op => onGuard a (fun b => WIf (b == p) (WGo base nm d op s cx fun s cx w => Go base Q k .normal s cx (wr || w)) (Go base Q k .normal ⟨updF s.fr d undefAV, s.H⟩ cx wr)) (Go base Q k .normal ⟨updF s.fr d undefAV, s.H⟩ cx wr)
    | .res x d => onSome x fun v => Go base Q k .normal ⟨updF s.fr d v, s.H⟩ cx wr
    | .pick c x y d => onBool c fun v => Go base Q k .normal ⟨updF s.fr d (if v then x else y), s.H⟩ cx wr
    | .sel a x y => onBool a fun v => WIf v (W base x s cx wr (Go base Q k)) (W base y s cx wr (Go base Q k))
    | .call strict f args d => WCall strict f args s.H cx fun o => Go base Q k .normal ⟨updF s.fr d o.v, o.H⟩ o.cx (wr || o.wr)
    | .callv a args d => onFn a fun f caps => WCall false f (args ++ caps) s.H cx fun o => Go base Q k .normal ⟨updF s.fr d o.v, o.H⟩ o.cx (wr || o.wr)
    | .stw x d => onSome x fun p => Go base Q k .normal ⟨updF s.fr d .any, upd s.H p.1 (some p.2)⟩ cx (wr || Nat.blt p.1 base)
    | .wrs x d => onSome x fun p => Go base Q k .normal ⟨updF s.fr d p.1, updH s.H p.2⟩ cx (wr || wrB base p.2)
    | .new o nm d => onSome o fun o => s.H nm = none ∧ Go base Q k .normal ⟨updF s.fr d (.np nm 0), upd s.H nm (some o)⟩ cx (wr || Nat.blt nm base)
    | .kc f args d => WCall false f args s.H cx fun o => o.wr = false ∧ Go base Q k .normal ⟨updF s.fr d o.v, o.H⟩ o.cx (wr || o.wr)
    | .pc f args d => WCall true f args s.H cx fun o => pures f = true ∧ Go base Q k .normal ⟨updF s.fr d o.v, o.H⟩ o.cx (wr || o.wr)
    | .dops dyn c0 i rs ts => WDs base c0 i rs s cx wr fun s cx wr ts' => dyn.all (fun p => disj ((ts ++ ts').getD p.1 []) ((ts ++ ts').getD p.2 [])) = true ∧ Go base Q k .normal s cx wr
  | i :: k, e, s, cx, wr => match i, e with
    | .blk id, .exit id' => if id' = id then Go base Q k .normal s cx wr else Go base Q k (.exit id') s cx wr
    | _, _ => Go base Q k e s cx wr

/-- To do k, from here on. -/
def Run (base : Nat) (k : List KI) (s : St) (cx : Nat) (wr : Bool) (Q : Ex → St → Nat → Bool → Prop) : Prop := Go base Q k .normal s cx wr

section
variable {base nm cx : Nat} {s : St} {d : Option Nat} {k : List KI} {wr : Bool} {Q : Ex → St → Nat → Bool → Prop}

theorem go_run : Go base Q k .normal s cx wr = Run base k s cx wr Q := rfl
theorem go_nil {e : Ex} : Go base Q [] e s cx wr = Q e s cx wr := by cases e <;> rfl
theorem go_exit_blk {id id' : Nat} : Go base Q (.blk id :: k) (.exit id') s cx wr = if id' = id then Run base k s cx wr Q else Go base Q k (.exit id') s cx wr := rfl
theorem go_exit_code {id' : Nat} {c : LCode} : Go base Q (.code c :: k) (.exit id') s cx wr = Go base Q k (.exit id') s cx wr := rfl
theorem go_ret {i : KI} : Go base Q (i :: k) .ret s cx wr = Go base Q k .ret s cx wr := by cases i <;> rfl
theorem go_goto {i : KI} {l : Nat} : Go base Q (i :: k) (.goto l) s cx wr = Go base Q k (.goto l) s cx wr := by cases i <;> rfl

theorem run_nil : Run base [] s cx wr Q ↔ Q .normal s cx wr := Iff.rfl
theorem run_blk {id : Nat} : Run base (.blk id :: k) s cx wr Q ↔ Run base k s cx wr Q := Iff.rfl
theorem run_skip : Run base (.code .skip :: k) s cx wr Q ↔ Run base k s cx wr Q := W_skip
theorem run_ret : Run base (.code .ret :: k) s cx wr Q ↔ Go base Q k .ret s cx wr := W_ret
theorem run_exit {id : Nat} : Run base (.code (.exit id) :: k) s cx wr Q ↔ Go base Q k (.exit id) s cx wr := W_exit
theorem run_goto {l : Nat} : Run base (.code (.goto l) :: k) s cx wr Q ↔ Go base Q k (.goto l) s cx wr := W_goto
theorem run_label {l : Nat} : Run base (.code (.label l) :: k) s cx wr Q ↔ Run base k s cx wr Q := W_label

theorem W_congrQ {c : LCode} {Q Q' : Ex → St → Nat → Bool → Prop} (h : ∀ e s cx wr, Q e s cx wr ↔ Q' e s cx wr) : W base c s cx wr Q ↔ W base c s cx wr Q' := ⟨fun x => W_mono x fun e s cx wr => (h e s cx wr).1, fun x => W_mono x fun e s cx wr => (h e s cx wr).2⟩

theorem run_seq {a b : LCode} : Run base (.code (.seq a b) :: k) s cx wr Q ↔ Run base (.code a :: .code b :: k) s cx wr Q := by
  refine W_seq.trans (W_congrQ fun e s cx wr => ?_)
  cases e <;> exact Iff.rfl
theorem run_block {id : Nat} {a : LCode} : Run base (.code (.block id a) :: k) s cx wr Q ↔ Run base (.code a :: .blk id :: k) s cx wr Q := by
  refine W_block.trans (W_congrQ fun e s cx wr => ?_)
  cases e <;> exact Iff.rfl
theorem run_cond {c : LA} {a b : LCode} : Run base (.code (.cond c a b) :: k) s cx wr Q ↔ Run base (.sel (c.ev s.fr) a b :: k) s cx wr Q := W_cond
theorem run_sel_t {a b : LCode} : Run base (.sel (.bool true) a b :: k) s cx wr Q ↔ Run base (.code a :: k) s cx wr Q := WIf_true
theorem run_sel_f {a b : LCode} : Run base (.sel (.bool false) a b :: k) s cx wr Q ↔ Run base (.code b :: k) s cx wr Q := WIf_false
theorem run_reg {rs : List LOpr} : Run base (.code (.reg rs) :: k) s cx wr Q ↔ Run base (.ops cx rs :: k) s (cx + rs.length) wr Q := W_reg
theorem run_dreg {dyn : List (Nat × Nat)} {rs : List LOpr} : Run base (.code (.dreg dyn rs) :: k) s cx wr Q ↔ Run base (.dops dyn cx 0 rs [] :: k) s (cx + rs.length) wr Q := W_dreg
theorem run_ops_nil : Run base (.ops nm [] :: k) s cx wr Q ↔ Run base k s cx wr Q := WOps_nil
theorem run_ops {op : LOp} {rs : List LOpr} : Run base (.ops nm (⟨d, op, none⟩ :: rs) :: k) s cx wr Q ↔ Run base (.op nm d op :: .ops (nm + 1) rs :: k) s cx wr Q := WOps_cons
theorem run_opsg {op : LOp} {t : Nat} {p : Bool} {rs : List LOpr} : Run base (.ops nm (⟨d, op, some (t, p)⟩ :: rs) :: k) s cx wr Q ↔ Run base (.gd (s.fr t) p nm d op :: .ops (nm + 1) rs :: k) s cx wr Q := by
  refine WOps_cons.trans (WOp_gd.trans ?_)
  simp only [Run, Go, Bool.or_false]
theorem run_gd_tt {op : LOp} {nm' : Nat} : Run base (.gd (.bool true) true nm' d op :: k) s cx wr Q ↔ Run base (.op nm' d op :: k) s cx wr Q := WIf_true
theorem run_gd_ff {op : LOp} {nm' : Nat} : Run base (.gd (.bool false) false nm' d op :: k) s cx wr Q ↔ Run base (.op nm' d op :: k) s cx wr Q := WIf_true
theorem run_gd_tf {op : LOp} {nm' : Nat} : Run base (.gd (.bool true) false nm' d op :: k) s cx wr Q ↔ Run base k ⟨updF s.fr d undefAV, s.H⟩ cx wr Q := WIf_false
theorem run_gd_ft {op : LOp} {nm' : Nat} : Run base (.gd (.bool false) true nm' d op :: k) s cx wr Q ↔ Run base k ⟨updF s.fr d undefAV, s.H⟩ cx wr Q := WIf_false
theorem run_gd_u {op : LOp} {nm' : Nat} {p : Bool} : Run base (.gd undefAV p nm' d op :: k) s cx wr Q ↔ Run base k ⟨updF s.fr d undefAV, s.H⟩ cx wr Q := Iff.rfl
theorem run_res {v : AV} : Run base (.res (some v) d :: k) s cx wr Q ↔ Run base k ⟨updF s.fr d v, s.H⟩ cx wr Q := Iff.rfl
theorem run_pickb {b : Bool} {x y : AV} : Run base (.pick (.bool b) x y d :: k) s cx wr Q ↔ Run base k ⟨updF s.fr d (if b then x else y), s.H⟩ cx wr Q := Iff.rfl
theorem run_stw {p : Nat × HO} : Run base (.stw (some p) d :: k) s cx wr Q ↔ Run base k ⟨updF s.fr d .any, upd s.H p.1 (some p.2)⟩ cx (wr || Nat.blt p.1 base) Q := Iff.rfl
theorem run_wrs {p : AV × List (Nat × HO)} : Run base (.wrs (some p) d :: k) s cx wr Q ↔ Run base k ⟨updF s.fr d p.1, updH s.H p.2⟩ cx (wr || wrB base p.2) Q := Iff.rfl
theorem run_new {o : HO} {m : Nat} : Run base (.new (some o) m d :: k) s cx wr Q ↔ s.H m = none ∧ Run base k ⟨updF s.fr d (.np m 0), upd s.H m (some o)⟩ cx (wr || Nat.blt m base) Q := Iff.rfl
theorem run_callvf {f : Nat} {caps args : List AV} : Run base (.callv (.fn f caps) args d :: k) s cx wr Q ↔ Run base (.call false f (args ++ caps) d :: k) s cx wr Q := Iff.rfl

/-- Both ways. -/
theorem run_sel {a b : LCode} {v : Bool} (h1 : v = true → Run base (.code a :: k) s cx wr Q) (h2 : v = false → Run base (.code b :: k) s cx wr Q) : Run base (.sel (.bool v) a b :: k) s cx wr Q := ⟨h1, h2⟩
theorem run_gdt {op : LOp} {nm' : Nat} {b : Bool} (h1 : b = true → Run base (.op nm' d op :: k) s cx wr Q) (h2 : b = false → Run base k ⟨updF s.fr d undefAV, s.H⟩ cx wr Q) : Run base (.gd (.bool b) true nm' d op :: k) s cx wr Q := by
  cases b with
  | true => exact run_gd_tt.2 (h1 rfl)
  | false => exact run_gd_ft.2 (h2 rfl)
theorem run_gdf {op : LOp} {nm' : Nat} {b : Bool} (h1 : b = false → Run base (.op nm' d op :: k) s cx wr Q) (h2 : b = true → Run base k ⟨updF s.fr d undefAV, s.H⟩ cx wr Q) : Run base (.gd (.bool b) false nm' d op :: k) s cx wr Q := by
  cases b with
  | true => exact run_gd_tf.2 (h2 rfl)
  | false => exact run_gd_ff.2 (h1 rfl)
/-- A call under a contract. -/
theorem run_call {strict : Bool} {f : Nat} {args : List AV} (h : WCall strict f args s.H cx fun o => Run base k ⟨updF s.fr d o.v, o.H⟩ o.cx (wr || o.wr) Q) : Run base (.call strict f args d :: k) s cx wr Q := h
/-- A pure call. -/
theorem run_pure {f : Nat} {args : List AV} {v : AV} (h : Pure f args v) (hp : pures f = true) (ha : args.all (AV.plainN depth) = true) {strict : Bool} : Run base (.call strict f args d :: k) s cx wr Q ↔ Run base k ⟨updF s.fr d v, s.H⟩ cx wr Q := by
  show WCall strict f args s.H cx _ ↔ _
  rw [h.call hp ha]
  simp only [Bool.or_false]
  exact Iff.rfl

variable {m : Nat} {x y z : LA}
theorem run_mv : Run base (.op nm d (.mv x) :: k) s cx wr Q ↔ Run base k ⟨updF s.fr d (x.ev s.fr), s.H⟩ cx wr Q := by
  show WGo _ _ _ _ _ _ _ ↔ _; rw [WGo_mv, Bool.or_false]; exact Iff.rfl
theorem run_pick : Run base (.op nm d (.pick x y z) :: k) s cx wr Q ↔ Run base (.pick (x.ev s.fr) (y.ev s.fr) (z.ev s.fr) d :: k) s cx wr Q := by
  show WGo _ _ _ _ _ _ _ ↔ _; rw [WGo_pick]; simp only [Run, Go, Bool.or_false]
theorem run_alloc {zs : List AV} : Run base (.op nm d (.alloc zs) :: k) s cx wr Q ↔ Run base (.new (some (.blk zs)) nm d :: k) s cx wr Q := by
  show WGo _ _ _ _ _ _ _ ↔ _; rw [WGo_alloc]; exact Iff.rfl
theorem run_box : Run base (.op nm d (.box x) :: k) s cx wr Q ↔ Run base (.new ((x.ev s.fr).cells.map .blk) nm d :: k) s cx wr Q := by
  show WGo _ _ _ _ _ _ _ ↔ _; rw [WGo_box]; simp only [Run, Go, onSome_map]
theorem run_build {zs : List AV} {ps : List (Nat × Nat × LA)} : Run base (.op nm d (.build zs ps) :: k) s cx wr Q ↔ Run base (.res ((fillV s.fr zs ps).map .agg) d :: k) s cx wr Q := by
  show WGo _ _ _ _ _ _ _ ↔ _; rw [WGo_build]; simp only [Run, Go, onSome_map, Bool.or_false]
theorem run_mks {E : Nat} {ps : List LA} : Run base (.op nm d (.mks E ps) :: k) s cx wr Q ↔ Run base (.res ((partsV s.fr E ps).map fun xs => .ro E xs true) d :: k) s cx wr Q := by
  show WGo _ _ _ _ _ _ _ ↔ _; rw [WGo_mks]; simp only [Run, Go, onSome_map, Bool.or_false]
theorem run_ld {ag : Bool} : Run base (.op nm d (.ld x m ag) :: k) s cx wr Q ↔ Run base (.res (ldV s.H (x.ev s.fr) m ag) d :: k) s cx wr Q := by
  show WGo _ _ _ _ _ _ _ ↔ _; rw [WGo_ld]; simp only [Run, Go, Bool.or_false]
theorem run_bin {o : BinOp} : Run base (.op nm d (.bin o x y m) :: k) s cx wr Q ↔ Run base (.res (binV o m (x.ev s.fr) (y.ev s.fr)) d :: k) s cx wr Q := by
  show WGo _ _ _ _ _ _ _ ↔ _; rw [WGo_bin]; simp only [Run, Go, Bool.or_false]
theorem run_un {o : UnOp} : Run base (.op nm d (.un o x) :: k) s cx wr Q ↔ Run base (.res (unV o (x.ev s.fr)) d :: k) s cx wr Q := by
  show WGo _ _ _ _ _ _ _ ↔ _; rw [WGo_un]; simp only [Run, Go, Bool.or_false]
theorem run_slc {E : Nat} {lo hi mx : Option LA} : Run base (.op nm d (.slc E x lo hi mx) :: k) s cx wr Q ↔ Run base (.res (sliceV s.fr s.H E (x.ev s.fr) lo hi mx) d :: k) s cx wr Q := by
  show WGo _ _ _ _ _ _ _ ↔ _; rw [WGo_slc]; simp only [Run, Go, Bool.or_false]
theorem run_ix {E : Nat} : Run base (.op nm d (.ix E x y) :: k) s cx wr Q ↔ Run base (.res (ixV E (x.ev s.fr) (y.ev s.fr)) d :: k) s cx wr Q := by
  show WGo _ _ _ _ _ _ _ ↔ _; rw [WGo_ix]; simp only [Run, Go, Bool.or_false]
theorem run_mm {mx : Bool} {xs : List LA} : Run base (.op nm d (.mm mx x xs) :: k) s cx wr Q ↔ Run base (.res (mmL mx (x.ev s.fr) (xs.map (·.ev s.fr))) d :: k) s cx wr Q := by
  show WGo _ _ _ _ _ _ _ ↔ _; rw [WGo_mm]; simp only [Run, Go, Bool.or_false]
theorem run_len {ks : Bool} : Run base (.op nm d (.len x ks) :: k) s cx wr Q ↔ Run base (.res ((lenV ks (x.ev s.fr)).map fun n => .int .i64 n) d :: k) s cx wr Q := by
  show WGo _ _ _ _ _ _ _ ↔ _; rw [WGo_len]; simp only [Run, Go, onSome_map, Bool.or_false]
theorem run_cap : Run base (.op nm d (.cap x) :: k) s cx wr Q ↔ Run base (.res ((capV (x.ev s.fr)).map fun n => .int .i64 n) d :: k) s cx wr Q := by
  show WGo _ _ _ _ _ _ _ ↔ _; rw [WGo_cap]; simp only [Run, Go, onSome_map, Bool.or_false]
theorem run_mkf {f : Nat} {cs : List LA} : Run base (.op nm d (.mkf f cs) :: k) s cx wr Q ↔ Run base k ⟨updF s.fr d (.fn f (cs.map (·.ev s.fr))), s.H⟩ cx wr Q := by
  show WGo _ _ _ _ _ _ _ ↔ _; rw [WGo_mkf, Bool.or_false]; exact Iff.rfl
theorem run_conv {kd : IntKind} : Run base (.op nm d (.conv kd x) :: k) s cx wr Q ↔ Run base (.res (convV kd (x.ev s.fr)) d :: k) s cx wr Q := by
  show WGo _ _ _ _ _ _ _ ↔ _; rw [WGo_conv]; simp only [Run, Go, Bool.or_false]
theorem run_fa {o : Nat} : Run base (.op nm d (.fa x o) :: k) s cx wr Q ↔ Run base (.res (faV o (x.ev s.fr)) d :: k) s cx wr Q := by
  show WGo _ _ _ _ _ _ _ ↔ _; rw [WGo_fa]; simp only [Run, Go, Bool.or_false]
theorem run_nck : Run base (.op nm d (.nck x) :: k) s cx wr Q ↔ Run base (.res (nckV (x.ev s.fr)) d :: k) s cx wr Q := by
  show WGo _ _ _ _ _ _ _ ↔ _; rw [WGo_nck]; simp only [Run, Go, Bool.or_false]
theorem run_ext {i : Nat} : Run base (.op nm d (.ext x i) :: k) s cx wr Q ↔ Run base (.res (extV i (x.ev s.fr)) d :: k) s cx wr Q := by
  show WGo _ _ _ _ _ _ _ ↔ _; rw [WGo_ext]; simp only [Run, Go, Bool.or_false]
theorem run_st : Run base (.op nm d (.st x y m) :: k) s cx wr Q ↔ Run base (.stw (stV s.H m (x.ev s.fr) (y.ev s.fr)) d :: k) s cx wr Q := by
  show WGo _ _ _ _ _ _ _ ↔ _; rw [WGo_st]; exact Iff.rfl
theorem run_app {E bytes : Nat} : Run base (.op nm d (.app E bytes x y) :: k) s cx wr Q ↔ Run base (.wrs (appV s.H nm E bytes (x.ev s.fr) (elsV s.H E (y.ev s.fr))) d :: k) s cx wr Q := by
  show WGo _ _ _ _ _ _ _ ↔ _; rw [WGo_app]; exact Iff.rfl
theorem run_isnil : Run base (.op nm d (.isnil x) :: k) s cx wr Q ↔ Run base (.res (isnilV (x.ev s.fr)) d :: k) s cx wr Q := by
  show WGo _ _ _ _ _ _ _ ↔ _; rw [WGo_isnil]; simp only [Run, Go, Bool.or_false]
theorem run_six : Run base (.op nm d (.six x y) :: k) s cx wr Q ↔ Run base (.res (sixV (x.ev s.fr) (y.ev s.fr)) d :: k) s cx wr Q := by
  show WGo _ _ _ _ _ _ _ ↔ _; rw [WGo_six]; simp only [Run, Go, Bool.or_false]
theorem run_appz {E bytes : Nat} {zs : List AV} : Run base (.op nm d (.appz E bytes zs x y) :: k) s cx wr Q ↔ Run base (.wrs (LOp.run nm s.fr s.H (.appz E bytes zs x y)) d :: k) s cx wr Q := by
  show WGo _ _ _ _ _ _ _ ↔ _; rw [WGo_appz]; exact Iff.rfl
theorem run_mkz {E : Nat} {zs : List AV} : Run base (.op nm d (.mkz E zs x y) :: k) s cx wr Q ↔ Run base (.wrs (LOp.run nm s.fr s.H (.mkz E zs x y)) d :: k) s cx wr Q := by
  show WGo _ _ _ _ _ _ _ ↔ _; rw [WGo_mkz]; exact Iff.rfl
theorem run_clr {zs : List AV} : Run base (.op nm d (.clr zs x) :: k) s cx wr Q ↔ Run base (.wrs (LOp.run nm s.fr s.H (.clr zs x)) d :: k) s cx wr Q := by
  show WGo _ _ _ _ _ _ _ ↔ _; rw [WGo_clr]; exact Iff.rfl
theorem run_opcall {f : Nat} {args : List LA} : Run base (.op nm d (.call f args) :: k) s cx wr Q ↔ Run base (.call false f (evs s.fr args) d :: k) s cx wr Q := by
  show WGo _ _ _ _ _ _ _ ↔ _; rw [WGo_call]; exact Iff.rfl
theorem run_opkcall {f : Nat} {args : List LA} : Run base (.op nm d (.kcall f args) :: k) s cx wr Q ↔ Run base (.call false f (evs s.fr args) d :: k) s cx wr Q := by
  show WGo _ _ _ _ _ _ _ ↔ _; rw [WGo_kcall]; exact Iff.rfl
theorem run_opcallv {args : List LA} : Run base (.op nm d (.callv x args) :: k) s cx wr Q ↔ Run base (.callv (x.ev s.fr) (evs s.fr args) d :: k) s cx wr Q := by
  show WGo _ _ _ _ _ _ _ ↔ _; rw [WGo_callv]; exact Iff.rfl

/-- A pure call, of the other kinds. -/
theorem run_pure_kc {f : Nat} {args : List AV} {v : AV} (h : Pure f args v) (hp : pures f = true) (ha : args.all (AV.plainN depth) = true) : Run base (.kc f args d :: k) s cx wr Q ↔ Run base k ⟨updF s.fr d v, s.H⟩ cx wr Q := by
  show WCall false f args s.H cx _ ↔ _
  rw [h.call hp ha]
  simp only [Bool.or_false, true_and]
  exact Iff.rfl
theorem run_pure_pc {f : Nat} {args : List AV} {v : AV} (h : Pure f args v) (hp : pures f = true) (ha : args.all (AV.plainN depth) = true) : Run base (.pc f args d :: k) s cx wr Q ↔ Run base k ⟨updF s.fr d v, s.H⟩ cx wr Q := by
  show WCall true f args s.H cx _ ↔ _
  rw [h.call hp ha]
  simp only [Bool.or_false, hp, true_and]
  exact Iff.rfl

/-! ### Regions that draw -/

def LOp.noC : LOp → Bool
  | .kcall _ _ => false
  | .pcall _ _ => false
  | _ => true

/-- What it reads is old. -/
def LOp.old (c0 : Nat) (fr : Nat → AV) : LOp → Bool
  | .ld x _ _ => (x.ev fr).tops.all fun q => Nat.blt q c0
  | .slc _ x _ _ _ => (match x.ev fr with
    | .gs nm _ _ _ => [nm]
    | _ => []).all fun q => Nat.blt q c0
  | _ => true

theorem old_cls (op : LOp) (c0 nm : Nat) (fr : Nat → AV) : (decide (op.cls pures = .L) && !((op.tops nm fr).all fun q => Nat.blt q c0)) = !op.old c0 fr := by
  cases op <;> simp [LOp.cls, LOp.tops, LOp.old]
  case slc E x lo hi mx => cases x.ev fr <;> rfl

theorem run_dops {dyn : List (Nat × Nat)} {c0 i : Nat} {op : LOp} {rs : List LOpr} {ts : List (List Nat)} (hc : op.noC = true) : Run base (.dops dyn c0 i (⟨d, op, none⟩ :: rs) ts :: k) s cx wr Q ↔
    op.old c0 s.fr = true ∧ Run base (.op (c0 + i) d op :: .dops dyn c0 (i + 1) rs (ts ++ [op.tops (c0 + i) s.fr]) :: k) s cx wr Q := by
  have hcl : ∀ w, (decide (op.cls pures = .C) && w) = false := fun w => by cases op <;> first | rfl | cases hc
  refine WDs_cons.trans ?_
  simp only [WOp_plain, old_cls, hcl, Bool.or_false, Bool.not_eq_false']
  show WGo _ _ _ _ _ _ _ ↔ _ ∧ WGo _ _ _ _ _ _ _
  constructor
  · rintro ⟨n, s', cx', w, h, h1, n2, s2, cx2, wr2, ts2, h2, h3, h4⟩
    exact ⟨h1, n, s', cx', w, h, n2, s2, cx2, wr2, ts2, h2, by simpa using h3, h4⟩
  · rintro ⟨h1, n, s', cx', w, h, n2, s2, cx2, wr2, ts2, h2, h3, h4⟩
    exact ⟨n, s', cx', w, h, h1, n2, s2, cx2, wr2, ts2, h2, by simpa using h3, h4⟩

theorem run_dopsg {dyn : List (Nat × Nat)} {c0 i t : Nat} {p : Bool} {op : LOp} {rs : List LOpr} {ts : List (List Nat)} (hc : op.noC = true) : Run base (.dops dyn c0 i (⟨d, op, some (t, p)⟩ :: rs) ts :: k) s cx wr Q ↔
    op.old c0 s.fr = true ∧ Run base (.gd (s.fr t) p (c0 + i) d op :: .dops dyn c0 (i + 1) rs (ts ++ [op.tops (c0 + i) s.fr]) :: k) s cx wr Q := by
  have hcl : ∀ w, (decide (op.cls pures = .C) && w) = false := fun w => by cases op <;> first | rfl | cases hc
  refine WDs_cons.trans ?_
  simp only [WOp_gd, old_cls, hcl, Bool.or_false, Bool.not_eq_false']
  simp only [Run, Go]
  generalize s.fr t = a
  have e1 : ∀ s' cx' w, (WDs base c0 (i + 1) rs s' cx' w fun s2 cx2 wr2 ts' => dyn.all (fun p => disj ((ts ++ op.tops (c0 + i) s.fr :: ts').getD p.1 []) ((ts ++ op.tops (c0 + i) s.fr :: ts').getD p.2 [])) = true ∧ Go base Q k .normal s2 cx2 wr2) ↔
      WDs base c0 (i + 1) rs s' cx' w fun s2 cx2 wr2 ts' => dyn.all (fun p => disj (((ts ++ [op.tops (c0 + i) s.fr]) ++ ts').getD p.1 []) (((ts ++ [op.tops (c0 + i) s.fr]) ++ ts').getD p.2 [])) = true ∧ Go base Q k .normal s2 cx2 wr2 := fun s' cx' w => by
    simp only [List.append_assoc, List.singleton_append]
  simp only [e1]
  cases hold : op.old c0 s.fr with
  | true => simp only [true_and]
  | false =>
    simp only [Bool.false_eq_true, false_and, iff_false]
    intro h
    cases a with
    | bool b =>
      simp only [onGuard, WIf] at h
      cases hb : (b == p) with
      | true => obtain ⟨n, s', cx', w, h1, h2⟩ := h.1 hb; exact h2
      | false => exact h.2 hb
    | raw v => cases v <;> exact h
    | _ => exact h

theorem dops_ts {nm : Nat} {op : LOp} {c0 i : Nat} {rs : List LOpr} {ts : List (List Nat)} : Run base (.op nm d op :: .dops [] c0 i rs ts :: k) s cx wr Q ↔ Run base (.op nm d op :: .dops [] c0 i rs [] :: k) s cx wr Q := by simp only [Run, Go, List.all_nil]
theorem dops_tsg {nm : Nat} {a : AV} {p : Bool} {op : LOp} {c0 i : Nat} {rs : List LOpr} {ts : List (List Nat)} : Run base (.gd a p nm d op :: .dops [] c0 i rs ts :: k) s cx wr Q ↔ Run base (.gd a p nm d op :: .dops [] c0 i rs [] :: k) s cx wr Q := by simp only [Run, Go, List.all_nil]
theorem run_d_mv {c0 i : Nat} {rs : List LOpr} {x : LA} : Run base (.dops [] c0 i (⟨d, .mv x, none⟩ :: rs) [] :: k) s cx wr Q ↔ Run base (.op (c0 + i) d (.mv x) :: .dops [] c0 (i + 1) rs [] :: k) s cx wr Q := ((run_dops rfl).trans (and_iff_right rfl)).trans dops_ts
theorem run_dd_mv {dyn : List (Nat × Nat)} {q : Nat × Nat} {c0 i : Nat} {rs : List LOpr} {ts : List (List Nat)} {x : LA} : Run base (.dops (q :: dyn) c0 i (⟨d, .mv x, none⟩ :: rs) ts :: k) s cx wr Q ↔ Run base (.op (c0 + i) d (.mv x) :: .dops (q :: dyn) c0 (i + 1) rs (ts ++ [(LOp.mv x).tops (c0 + i) s.fr]) :: k) s cx wr Q := (run_dops rfl).trans (and_iff_right rfl)
theorem run_dg_mv {c0 i t : Nat} {p : Bool} {rs : List LOpr} {x : LA} : Run base (.dops [] c0 i (⟨d, .mv x, some (t, p)⟩ :: rs) [] :: k) s cx wr Q ↔ Run base (.gd (s.fr t) p (c0 + i) d (.mv x) :: .dops [] c0 (i + 1) rs [] :: k) s cx wr Q := ((run_dopsg rfl).trans (and_iff_right rfl)).trans dops_tsg
theorem run_ddg_mv {dyn : List (Nat × Nat)} {q : Nat × Nat} {c0 i t : Nat} {p : Bool} {rs : List LOpr} {ts : List (List Nat)} {x : LA} : Run base (.dops (q :: dyn) c0 i (⟨d, .mv x, some (t, p)⟩ :: rs) ts :: k) s cx wr Q ↔ Run base (.gd (s.fr t) p (c0 + i) d (.mv x) :: .dops (q :: dyn) c0 (i + 1) rs (ts ++ [(LOp.mv x).tops (c0 + i) s.fr]) :: k) s cx wr Q := (run_dopsg rfl).trans (and_iff_right rfl)
theorem run_d_pick {c0 i : Nat} {rs : List LOpr} {x : LA} {y : LA} {z : LA} : Run base (.dops [] c0 i (⟨d, .pick x y z, none⟩ :: rs) [] :: k) s cx wr Q ↔ Run base (.op (c0 + i) d (.pick x y z) :: .dops [] c0 (i + 1) rs [] :: k) s cx wr Q := ((run_dops rfl).trans (and_iff_right rfl)).trans dops_ts
theorem run_dd_pick {dyn : List (Nat × Nat)} {q : Nat × Nat} {c0 i : Nat} {rs : List LOpr} {ts : List (List Nat)} {x : LA} {y : LA} {z : LA} : Run base (.dops (q :: dyn) c0 i (⟨d, .pick x y z, none⟩ :: rs) ts :: k) s cx wr Q ↔ Run base (.op (c0 + i) d (.pick x y z) :: .dops (q :: dyn) c0 (i + 1) rs (ts ++ [(LOp.pick x y z).tops (c0 + i) s.fr]) :: k) s cx wr Q := (run_dops rfl).trans (and_iff_right rfl)
theorem run_dg_pick {c0 i t : Nat} {p : Bool} {rs : List LOpr} {x : LA} {y : LA} {z : LA} : Run base (.dops [] c0 i (⟨d, .pick x y z, some (t, p)⟩ :: rs) [] :: k) s cx wr Q ↔ Run base (.gd (s.fr t) p (c0 + i) d (.pick x y z) :: .dops [] c0 (i + 1) rs [] :: k) s cx wr Q := ((run_dopsg rfl).trans (and_iff_right rfl)).trans dops_tsg
theorem run_ddg_pick {dyn : List (Nat × Nat)} {q : Nat × Nat} {c0 i t : Nat} {p : Bool} {rs : List LOpr} {ts : List (List Nat)} {x : LA} {y : LA} {z : LA} : Run base (.dops (q :: dyn) c0 i (⟨d, .pick x y z, some (t, p)⟩ :: rs) ts :: k) s cx wr Q ↔ Run base (.gd (s.fr t) p (c0 + i) d (.pick x y z) :: .dops (q :: dyn) c0 (i + 1) rs (ts ++ [(LOp.pick x y z).tops (c0 + i) s.fr]) :: k) s cx wr Q := (run_dopsg rfl).trans (and_iff_right rfl)
theorem run_d_alloc {c0 i : Nat} {rs : List LOpr} {zs : List AV} : Run base (.dops [] c0 i (⟨d, .alloc zs, none⟩ :: rs) [] :: k) s cx wr Q ↔ Run base (.op (c0 + i) d (.alloc zs) :: .dops [] c0 (i + 1) rs [] :: k) s cx wr Q := ((run_dops rfl).trans (and_iff_right rfl)).trans dops_ts
theorem run_dd_alloc {dyn : List (Nat × Nat)} {q : Nat × Nat} {c0 i : Nat} {rs : List LOpr} {ts : List (List Nat)} {zs : List AV} : Run base (.dops (q :: dyn) c0 i (⟨d, .alloc zs, none⟩ :: rs) ts :: k) s cx wr Q ↔ Run base (.op (c0 + i) d (.alloc zs) :: .dops (q :: dyn) c0 (i + 1) rs (ts ++ [(LOp.alloc zs).tops (c0 + i) s.fr]) :: k) s cx wr Q := (run_dops rfl).trans (and_iff_right rfl)
theorem run_dg_alloc {c0 i t : Nat} {p : Bool} {rs : List LOpr} {zs : List AV} : Run base (.dops [] c0 i (⟨d, .alloc zs, some (t, p)⟩ :: rs) [] :: k) s cx wr Q ↔ Run base (.gd (s.fr t) p (c0 + i) d (.alloc zs) :: .dops [] c0 (i + 1) rs [] :: k) s cx wr Q := ((run_dopsg rfl).trans (and_iff_right rfl)).trans dops_tsg
theorem run_ddg_alloc {dyn : List (Nat × Nat)} {q : Nat × Nat} {c0 i t : Nat} {p : Bool} {rs : List LOpr} {ts : List (List Nat)} {zs : List AV} : Run base (.dops (q :: dyn) c0 i (⟨d, .alloc zs, some (t, p)⟩ :: rs) ts :: k) s cx wr Q ↔ Run base (.gd (s.fr t) p (c0 + i) d (.alloc zs) :: .dops (q :: dyn) c0 (i + 1) rs (ts ++ [(LOp.alloc zs).tops (c0 + i) s.fr]) :: k) s cx wr Q := (run_dopsg rfl).trans (and_iff_right rfl)
theorem run_d_box {c0 i : Nat} {rs : List LOpr} {x : LA} : Run base (.dops [] c0 i (⟨d, .box x, none⟩ :: rs) [] :: k) s cx wr Q ↔ Run base (.op (c0 + i) d (.box x) :: .dops [] c0 (i + 1) rs [] :: k) s cx wr Q := ((run_dops rfl).trans (and_iff_right rfl)).trans dops_ts
theorem run_dd_box {dyn : List (Nat × Nat)} {q : Nat × Nat} {c0 i : Nat} {rs : List LOpr} {ts : List (List Nat)} {x : LA} : Run base (.dops (q :: dyn) c0 i (⟨d, .box x, none⟩ :: rs) ts :: k) s cx wr Q ↔ Run base (.op (c0 + i) d (.box x) :: .dops (q :: dyn) c0 (i + 1) rs (ts ++ [(LOp.box x).tops (c0 + i) s.fr]) :: k) s cx wr Q := (run_dops rfl).trans (and_iff_right rfl)
theorem run_dg_box {c0 i t : Nat} {p : Bool} {rs : List LOpr} {x : LA} : Run base (.dops [] c0 i (⟨d, .box x, some (t, p)⟩ :: rs) [] :: k) s cx wr Q ↔ Run base (.gd (s.fr t) p (c0 + i) d (.box x) :: .dops [] c0 (i + 1) rs [] :: k) s cx wr Q := ((run_dopsg rfl).trans (and_iff_right rfl)).trans dops_tsg
theorem run_ddg_box {dyn : List (Nat × Nat)} {q : Nat × Nat} {c0 i t : Nat} {p : Bool} {rs : List LOpr} {ts : List (List Nat)} {x : LA} : Run base (.dops (q :: dyn) c0 i (⟨d, .box x, some (t, p)⟩ :: rs) ts :: k) s cx wr Q ↔ Run base (.gd (s.fr t) p (c0 + i) d (.box x) :: .dops (q :: dyn) c0 (i + 1) rs (ts ++ [(LOp.box x).tops (c0 + i) s.fr]) :: k) s cx wr Q := (run_dopsg rfl).trans (and_iff_right rfl)
theorem run_d_build {c0 i : Nat} {rs : List LOpr} {zs : List AV} {ps : List (Nat × Nat × LA)} : Run base (.dops [] c0 i (⟨d, .build zs ps, none⟩ :: rs) [] :: k) s cx wr Q ↔ Run base (.op (c0 + i) d (.build zs ps) :: .dops [] c0 (i + 1) rs [] :: k) s cx wr Q := ((run_dops rfl).trans (and_iff_right rfl)).trans dops_ts
theorem run_dd_build {dyn : List (Nat × Nat)} {q : Nat × Nat} {c0 i : Nat} {rs : List LOpr} {ts : List (List Nat)} {zs : List AV} {ps : List (Nat × Nat × LA)} : Run base (.dops (q :: dyn) c0 i (⟨d, .build zs ps, none⟩ :: rs) ts :: k) s cx wr Q ↔ Run base (.op (c0 + i) d (.build zs ps) :: .dops (q :: dyn) c0 (i + 1) rs (ts ++ [(LOp.build zs ps).tops (c0 + i) s.fr]) :: k) s cx wr Q := (run_dops rfl).trans (and_iff_right rfl)
theorem run_dg_build {c0 i t : Nat} {p : Bool} {rs : List LOpr} {zs : List AV} {ps : List (Nat × Nat × LA)} : Run base (.dops [] c0 i (⟨d, .build zs ps, some (t, p)⟩ :: rs) [] :: k) s cx wr Q ↔ Run base (.gd (s.fr t) p (c0 + i) d (.build zs ps) :: .dops [] c0 (i + 1) rs [] :: k) s cx wr Q := ((run_dopsg rfl).trans (and_iff_right rfl)).trans dops_tsg
theorem run_ddg_build {dyn : List (Nat × Nat)} {q : Nat × Nat} {c0 i t : Nat} {p : Bool} {rs : List LOpr} {ts : List (List Nat)} {zs : List AV} {ps : List (Nat × Nat × LA)} : Run base (.dops (q :: dyn) c0 i (⟨d, .build zs ps, some (t, p)⟩ :: rs) ts :: k) s cx wr Q ↔ Run base (.gd (s.fr t) p (c0 + i) d (.build zs ps) :: .dops (q :: dyn) c0 (i + 1) rs (ts ++ [(LOp.build zs ps).tops (c0 + i) s.fr]) :: k) s cx wr Q := (run_dopsg rfl).trans (and_iff_right rfl)
theorem run_d_mks {c0 i : Nat} {rs : List LOpr} {E : Nat} {ls : List LA} : Run base (.dops [] c0 i (⟨d, .mks E ls, none⟩ :: rs) [] :: k) s cx wr Q ↔ Run base (.op (c0 + i) d (.mks E ls) :: .dops [] c0 (i + 1) rs [] :: k) s cx wr Q := ((run_dops rfl).trans (and_iff_right rfl)).trans dops_ts
theorem run_dd_mks {dyn : List (Nat × Nat)} {q : Nat × Nat} {c0 i : Nat} {rs : List LOpr} {ts : List (List Nat)} {E : Nat} {ls : List LA} : Run base (.dops (q :: dyn) c0 i (⟨d, .mks E ls, none⟩ :: rs) ts :: k) s cx wr Q ↔ Run base (.op (c0 + i) d (.mks E ls) :: .dops (q :: dyn) c0 (i + 1) rs (ts ++ [(LOp.mks E ls).tops (c0 + i) s.fr]) :: k) s cx wr Q := (run_dops rfl).trans (and_iff_right rfl)
theorem run_dg_mks {c0 i t : Nat} {p : Bool} {rs : List LOpr} {E : Nat} {ls : List LA} : Run base (.dops [] c0 i (⟨d, .mks E ls, some (t, p)⟩ :: rs) [] :: k) s cx wr Q ↔ Run base (.gd (s.fr t) p (c0 + i) d (.mks E ls) :: .dops [] c0 (i + 1) rs [] :: k) s cx wr Q := ((run_dopsg rfl).trans (and_iff_right rfl)).trans dops_tsg
theorem run_ddg_mks {dyn : List (Nat × Nat)} {q : Nat × Nat} {c0 i t : Nat} {p : Bool} {rs : List LOpr} {ts : List (List Nat)} {E : Nat} {ls : List LA} : Run base (.dops (q :: dyn) c0 i (⟨d, .mks E ls, some (t, p)⟩ :: rs) ts :: k) s cx wr Q ↔ Run base (.gd (s.fr t) p (c0 + i) d (.mks E ls) :: .dops (q :: dyn) c0 (i + 1) rs (ts ++ [(LOp.mks E ls).tops (c0 + i) s.fr]) :: k) s cx wr Q := (run_dopsg rfl).trans (and_iff_right rfl)
theorem run_d_mkz {c0 i : Nat} {rs : List LOpr} {E : Nat} {zs : List AV} {x : LA} {y : LA} : Run base (.dops [] c0 i (⟨d, .mkz E zs x y, none⟩ :: rs) [] :: k) s cx wr Q ↔ Run base (.op (c0 + i) d (.mkz E zs x y) :: .dops [] c0 (i + 1) rs [] :: k) s cx wr Q := ((run_dops rfl).trans (and_iff_right rfl)).trans dops_ts
theorem run_dd_mkz {dyn : List (Nat × Nat)} {q : Nat × Nat} {c0 i : Nat} {rs : List LOpr} {ts : List (List Nat)} {E : Nat} {zs : List AV} {x : LA} {y : LA} : Run base (.dops (q :: dyn) c0 i (⟨d, .mkz E zs x y, none⟩ :: rs) ts :: k) s cx wr Q ↔ Run base (.op (c0 + i) d (.mkz E zs x y) :: .dops (q :: dyn) c0 (i + 1) rs (ts ++ [(LOp.mkz E zs x y).tops (c0 + i) s.fr]) :: k) s cx wr Q := (run_dops rfl).trans (and_iff_right rfl)
theorem run_dg_mkz {c0 i t : Nat} {p : Bool} {rs : List LOpr} {E : Nat} {zs : List AV} {x : LA} {y : LA} : Run base (.dops [] c0 i (⟨d, .mkz E zs x y, some (t, p)⟩ :: rs) [] :: k) s cx wr Q ↔ Run base (.gd (s.fr t) p (c0 + i) d (.mkz E zs x y) :: .dops [] c0 (i + 1) rs [] :: k) s cx wr Q := ((run_dopsg rfl).trans (and_iff_right rfl)).trans dops_tsg
theorem run_ddg_mkz {dyn : List (Nat × Nat)} {q : Nat × Nat} {c0 i t : Nat} {p : Bool} {rs : List LOpr} {ts : List (List Nat)} {E : Nat} {zs : List AV} {x : LA} {y : LA} : Run base (.dops (q :: dyn) c0 i (⟨d, .mkz E zs x y, some (t, p)⟩ :: rs) ts :: k) s cx wr Q ↔ Run base (.gd (s.fr t) p (c0 + i) d (.mkz E zs x y) :: .dops (q :: dyn) c0 (i + 1) rs (ts ++ [(LOp.mkz E zs x y).tops (c0 + i) s.fr]) :: k) s cx wr Q := (run_dopsg rfl).trans (and_iff_right rfl)
theorem run_d_ld {c0 i : Nat} {rs : List LOpr} {x : LA} {m : Nat} {ag : Bool} : Run base (.dops [] c0 i (⟨d, .ld x m ag, none⟩ :: rs) [] :: k) s cx wr Q ↔ (x.ev s.fr).tops.all (fun q => Nat.blt q c0) = true ∧ Run base (.op (c0 + i) d (.ld x m ag) :: .dops [] c0 (i + 1) rs [] :: k) s cx wr Q := (run_dops rfl).trans (and_congr_right fun _ => dops_ts)
theorem run_dd_ld {dyn : List (Nat × Nat)} {q : Nat × Nat} {c0 i : Nat} {rs : List LOpr} {ts : List (List Nat)} {x : LA} {m : Nat} {ag : Bool} : Run base (.dops (q :: dyn) c0 i (⟨d, .ld x m ag, none⟩ :: rs) ts :: k) s cx wr Q ↔ (x.ev s.fr).tops.all (fun q => Nat.blt q c0) = true ∧ Run base (.op (c0 + i) d (.ld x m ag) :: .dops (q :: dyn) c0 (i + 1) rs (ts ++ [(LOp.ld x m ag).tops (c0 + i) s.fr]) :: k) s cx wr Q := run_dops rfl
theorem run_dg_ld {c0 i t : Nat} {p : Bool} {rs : List LOpr} {x : LA} {m : Nat} {ag : Bool} : Run base (.dops [] c0 i (⟨d, .ld x m ag, some (t, p)⟩ :: rs) [] :: k) s cx wr Q ↔ (x.ev s.fr).tops.all (fun q => Nat.blt q c0) = true ∧ Run base (.gd (s.fr t) p (c0 + i) d (.ld x m ag) :: .dops [] c0 (i + 1) rs [] :: k) s cx wr Q := (run_dopsg rfl).trans (and_congr_right fun _ => dops_tsg)
theorem run_ddg_ld {dyn : List (Nat × Nat)} {q : Nat × Nat} {c0 i t : Nat} {p : Bool} {rs : List LOpr} {ts : List (List Nat)} {x : LA} {m : Nat} {ag : Bool} : Run base (.dops (q :: dyn) c0 i (⟨d, .ld x m ag, some (t, p)⟩ :: rs) ts :: k) s cx wr Q ↔ (x.ev s.fr).tops.all (fun q => Nat.blt q c0) = true ∧ Run base (.gd (s.fr t) p (c0 + i) d (.ld x m ag) :: .dops (q :: dyn) c0 (i + 1) rs (ts ++ [(LOp.ld x m ag).tops (c0 + i) s.fr]) :: k) s cx wr Q := run_dopsg rfl
theorem run_d_st {c0 i : Nat} {rs : List LOpr} {x : LA} {y : LA} {m : Nat} : Run base (.dops [] c0 i (⟨d, .st x y m, none⟩ :: rs) [] :: k) s cx wr Q ↔ Run base (.op (c0 + i) d (.st x y m) :: .dops [] c0 (i + 1) rs [] :: k) s cx wr Q := ((run_dops rfl).trans (and_iff_right rfl)).trans dops_ts
theorem run_dd_st {dyn : List (Nat × Nat)} {q : Nat × Nat} {c0 i : Nat} {rs : List LOpr} {ts : List (List Nat)} {x : LA} {y : LA} {m : Nat} : Run base (.dops (q :: dyn) c0 i (⟨d, .st x y m, none⟩ :: rs) ts :: k) s cx wr Q ↔ Run base (.op (c0 + i) d (.st x y m) :: .dops (q :: dyn) c0 (i + 1) rs (ts ++ [(LOp.st x y m).tops (c0 + i) s.fr]) :: k) s cx wr Q := (run_dops rfl).trans (and_iff_right rfl)
theorem run_dg_st {c0 i t : Nat} {p : Bool} {rs : List LOpr} {x : LA} {y : LA} {m : Nat} : Run base (.dops [] c0 i (⟨d, .st x y m, some (t, p)⟩ :: rs) [] :: k) s cx wr Q ↔ Run base (.gd (s.fr t) p (c0 + i) d (.st x y m) :: .dops [] c0 (i + 1) rs [] :: k) s cx wr Q := ((run_dopsg rfl).trans (and_iff_right rfl)).trans dops_tsg
theorem run_ddg_st {dyn : List (Nat × Nat)} {q : Nat × Nat} {c0 i t : Nat} {p : Bool} {rs : List LOpr} {ts : List (List Nat)} {x : LA} {y : LA} {m : Nat} : Run base (.dops (q :: dyn) c0 i (⟨d, .st x y m, some (t, p)⟩ :: rs) ts :: k) s cx wr Q ↔ Run base (.gd (s.fr t) p (c0 + i) d (.st x y m) :: .dops (q :: dyn) c0 (i + 1) rs (ts ++ [(LOp.st x y m).tops (c0 + i) s.fr]) :: k) s cx wr Q := (run_dopsg rfl).trans (and_iff_right rfl)
theorem run_d_nck {c0 i : Nat} {rs : List LOpr} {x : LA} : Run base (.dops [] c0 i (⟨d, .nck x, none⟩ :: rs) [] :: k) s cx wr Q ↔ Run base (.op (c0 + i) d (.nck x) :: .dops [] c0 (i + 1) rs [] :: k) s cx wr Q := ((run_dops rfl).trans (and_iff_right rfl)).trans dops_ts
theorem run_dd_nck {dyn : List (Nat × Nat)} {q : Nat × Nat} {c0 i : Nat} {rs : List LOpr} {ts : List (List Nat)} {x : LA} : Run base (.dops (q :: dyn) c0 i (⟨d, .nck x, none⟩ :: rs) ts :: k) s cx wr Q ↔ Run base (.op (c0 + i) d (.nck x) :: .dops (q :: dyn) c0 (i + 1) rs (ts ++ [(LOp.nck x).tops (c0 + i) s.fr]) :: k) s cx wr Q := (run_dops rfl).trans (and_iff_right rfl)
theorem run_dg_nck {c0 i t : Nat} {p : Bool} {rs : List LOpr} {x : LA} : Run base (.dops [] c0 i (⟨d, .nck x, some (t, p)⟩ :: rs) [] :: k) s cx wr Q ↔ Run base (.gd (s.fr t) p (c0 + i) d (.nck x) :: .dops [] c0 (i + 1) rs [] :: k) s cx wr Q := ((run_dopsg rfl).trans (and_iff_right rfl)).trans dops_tsg
theorem run_ddg_nck {dyn : List (Nat × Nat)} {q : Nat × Nat} {c0 i t : Nat} {p : Bool} {rs : List LOpr} {ts : List (List Nat)} {x : LA} : Run base (.dops (q :: dyn) c0 i (⟨d, .nck x, some (t, p)⟩ :: rs) ts :: k) s cx wr Q ↔ Run base (.gd (s.fr t) p (c0 + i) d (.nck x) :: .dops (q :: dyn) c0 (i + 1) rs (ts ++ [(LOp.nck x).tops (c0 + i) s.fr]) :: k) s cx wr Q := (run_dopsg rfl).trans (and_iff_right rfl)
theorem run_d_bin {c0 i : Nat} {rs : List LOpr} {o : BinOp} {x : LA} {y : LA} {m : Nat} : Run base (.dops [] c0 i (⟨d, .bin o x y m, none⟩ :: rs) [] :: k) s cx wr Q ↔ Run base (.op (c0 + i) d (.bin o x y m) :: .dops [] c0 (i + 1) rs [] :: k) s cx wr Q := ((run_dops rfl).trans (and_iff_right rfl)).trans dops_ts
theorem run_dd_bin {dyn : List (Nat × Nat)} {q : Nat × Nat} {c0 i : Nat} {rs : List LOpr} {ts : List (List Nat)} {o : BinOp} {x : LA} {y : LA} {m : Nat} : Run base (.dops (q :: dyn) c0 i (⟨d, .bin o x y m, none⟩ :: rs) ts :: k) s cx wr Q ↔ Run base (.op (c0 + i) d (.bin o x y m) :: .dops (q :: dyn) c0 (i + 1) rs (ts ++ [(LOp.bin o x y m).tops (c0 + i) s.fr]) :: k) s cx wr Q := (run_dops rfl).trans (and_iff_right rfl)
theorem run_dg_bin {c0 i t : Nat} {p : Bool} {rs : List LOpr} {o : BinOp} {x : LA} {y : LA} {m : Nat} : Run base (.dops [] c0 i (⟨d, .bin o x y m, some (t, p)⟩ :: rs) [] :: k) s cx wr Q ↔ Run base (.gd (s.fr t) p (c0 + i) d (.bin o x y m) :: .dops [] c0 (i + 1) rs [] :: k) s cx wr Q := ((run_dopsg rfl).trans (and_iff_right rfl)).trans dops_tsg
theorem run_ddg_bin {dyn : List (Nat × Nat)} {q : Nat × Nat} {c0 i t : Nat} {p : Bool} {rs : List LOpr} {ts : List (List Nat)} {o : BinOp} {x : LA} {y : LA} {m : Nat} : Run base (.dops (q :: dyn) c0 i (⟨d, .bin o x y m, some (t, p)⟩ :: rs) ts :: k) s cx wr Q ↔ Run base (.gd (s.fr t) p (c0 + i) d (.bin o x y m) :: .dops (q :: dyn) c0 (i + 1) rs (ts ++ [(LOp.bin o x y m).tops (c0 + i) s.fr]) :: k) s cx wr Q := (run_dopsg rfl).trans (and_iff_right rfl)
theorem run_d_un {c0 i : Nat} {rs : List LOpr} {u : UnOp} {x : LA} : Run base (.dops [] c0 i (⟨d, .un u x, none⟩ :: rs) [] :: k) s cx wr Q ↔ Run base (.op (c0 + i) d (.un u x) :: .dops [] c0 (i + 1) rs [] :: k) s cx wr Q := ((run_dops rfl).trans (and_iff_right rfl)).trans dops_ts
theorem run_dd_un {dyn : List (Nat × Nat)} {q : Nat × Nat} {c0 i : Nat} {rs : List LOpr} {ts : List (List Nat)} {u : UnOp} {x : LA} : Run base (.dops (q :: dyn) c0 i (⟨d, .un u x, none⟩ :: rs) ts :: k) s cx wr Q ↔ Run base (.op (c0 + i) d (.un u x) :: .dops (q :: dyn) c0 (i + 1) rs (ts ++ [(LOp.un u x).tops (c0 + i) s.fr]) :: k) s cx wr Q := (run_dops rfl).trans (and_iff_right rfl)
theorem run_dg_un {c0 i t : Nat} {p : Bool} {rs : List LOpr} {u : UnOp} {x : LA} : Run base (.dops [] c0 i (⟨d, .un u x, some (t, p)⟩ :: rs) [] :: k) s cx wr Q ↔ Run base (.gd (s.fr t) p (c0 + i) d (.un u x) :: .dops [] c0 (i + 1) rs [] :: k) s cx wr Q := ((run_dopsg rfl).trans (and_iff_right rfl)).trans dops_tsg
theorem run_ddg_un {dyn : List (Nat × Nat)} {q : Nat × Nat} {c0 i t : Nat} {p : Bool} {rs : List LOpr} {ts : List (List Nat)} {u : UnOp} {x : LA} : Run base (.dops (q :: dyn) c0 i (⟨d, .un u x, some (t, p)⟩ :: rs) ts :: k) s cx wr Q ↔ Run base (.gd (s.fr t) p (c0 + i) d (.un u x) :: .dops (q :: dyn) c0 (i + 1) rs (ts ++ [(LOp.un u x).tops (c0 + i) s.fr]) :: k) s cx wr Q := (run_dopsg rfl).trans (and_iff_right rfl)
theorem run_d_conv {c0 i : Nat} {rs : List LOpr} {kd : IntKind} {x : LA} : Run base (.dops [] c0 i (⟨d, .conv kd x, none⟩ :: rs) [] :: k) s cx wr Q ↔ Run base (.op (c0 + i) d (.conv kd x) :: .dops [] c0 (i + 1) rs [] :: k) s cx wr Q := ((run_dops rfl).trans (and_iff_right rfl)).trans dops_ts
theorem run_dd_conv {dyn : List (Nat × Nat)} {q : Nat × Nat} {c0 i : Nat} {rs : List LOpr} {ts : List (List Nat)} {kd : IntKind} {x : LA} : Run base (.dops (q :: dyn) c0 i (⟨d, .conv kd x, none⟩ :: rs) ts :: k) s cx wr Q ↔ Run base (.op (c0 + i) d (.conv kd x) :: .dops (q :: dyn) c0 (i + 1) rs (ts ++ [(LOp.conv kd x).tops (c0 + i) s.fr]) :: k) s cx wr Q := (run_dops rfl).trans (and_iff_right rfl)
theorem run_dg_conv {c0 i t : Nat} {p : Bool} {rs : List LOpr} {kd : IntKind} {x : LA} : Run base (.dops [] c0 i (⟨d, .conv kd x, some (t, p)⟩ :: rs) [] :: k) s cx wr Q ↔ Run base (.gd (s.fr t) p (c0 + i) d (.conv kd x) :: .dops [] c0 (i + 1) rs [] :: k) s cx wr Q := ((run_dopsg rfl).trans (and_iff_right rfl)).trans dops_tsg
theorem run_ddg_conv {dyn : List (Nat × Nat)} {q : Nat × Nat} {c0 i t : Nat} {p : Bool} {rs : List LOpr} {ts : List (List Nat)} {kd : IntKind} {x : LA} : Run base (.dops (q :: dyn) c0 i (⟨d, .conv kd x, some (t, p)⟩ :: rs) ts :: k) s cx wr Q ↔ Run base (.gd (s.fr t) p (c0 + i) d (.conv kd x) :: .dops (q :: dyn) c0 (i + 1) rs (ts ++ [(LOp.conv kd x).tops (c0 + i) s.fr]) :: k) s cx wr Q := (run_dopsg rfl).trans (and_iff_right rfl)
theorem run_d_mkf {c0 i : Nat} {rs : List LOpr} {f : Nat} {ls : List LA} : Run base (.dops [] c0 i (⟨d, .mkf f ls, none⟩ :: rs) [] :: k) s cx wr Q ↔ Run base (.op (c0 + i) d (.mkf f ls) :: .dops [] c0 (i + 1) rs [] :: k) s cx wr Q := ((run_dops rfl).trans (and_iff_right rfl)).trans dops_ts
theorem run_dd_mkf {dyn : List (Nat × Nat)} {q : Nat × Nat} {c0 i : Nat} {rs : List LOpr} {ts : List (List Nat)} {f : Nat} {ls : List LA} : Run base (.dops (q :: dyn) c0 i (⟨d, .mkf f ls, none⟩ :: rs) ts :: k) s cx wr Q ↔ Run base (.op (c0 + i) d (.mkf f ls) :: .dops (q :: dyn) c0 (i + 1) rs (ts ++ [(LOp.mkf f ls).tops (c0 + i) s.fr]) :: k) s cx wr Q := (run_dops rfl).trans (and_iff_right rfl)
theorem run_dg_mkf {c0 i t : Nat} {p : Bool} {rs : List LOpr} {f : Nat} {ls : List LA} : Run base (.dops [] c0 i (⟨d, .mkf f ls, some (t, p)⟩ :: rs) [] :: k) s cx wr Q ↔ Run base (.gd (s.fr t) p (c0 + i) d (.mkf f ls) :: .dops [] c0 (i + 1) rs [] :: k) s cx wr Q := ((run_dopsg rfl).trans (and_iff_right rfl)).trans dops_tsg
theorem run_ddg_mkf {dyn : List (Nat × Nat)} {q : Nat × Nat} {c0 i t : Nat} {p : Bool} {rs : List LOpr} {ts : List (List Nat)} {f : Nat} {ls : List LA} : Run base (.dops (q :: dyn) c0 i (⟨d, .mkf f ls, some (t, p)⟩ :: rs) ts :: k) s cx wr Q ↔ Run base (.gd (s.fr t) p (c0 + i) d (.mkf f ls) :: .dops (q :: dyn) c0 (i + 1) rs (ts ++ [(LOp.mkf f ls).tops (c0 + i) s.fr]) :: k) s cx wr Q := (run_dopsg rfl).trans (and_iff_right rfl)
theorem run_d_slc {c0 i : Nat} {rs : List LOpr} {E : Nat} {x : LA} {lo : Option LA} {hi : Option LA} {mx : Option LA} : Run base (.dops [] c0 i (⟨d, .slc E x lo hi mx, none⟩ :: rs) [] :: k) s cx wr Q ↔ LOp.old c0 s.fr (.slc E x lo hi mx) = true ∧ Run base (.op (c0 + i) d (.slc E x lo hi mx) :: .dops [] c0 (i + 1) rs [] :: k) s cx wr Q := (run_dops rfl).trans (and_congr_right fun _ => dops_ts)
theorem run_dd_slc {dyn : List (Nat × Nat)} {q : Nat × Nat} {c0 i : Nat} {rs : List LOpr} {ts : List (List Nat)} {E : Nat} {x : LA} {lo : Option LA} {hi : Option LA} {mx : Option LA} : Run base (.dops (q :: dyn) c0 i (⟨d, .slc E x lo hi mx, none⟩ :: rs) ts :: k) s cx wr Q ↔ LOp.old c0 s.fr (.slc E x lo hi mx) = true ∧ Run base (.op (c0 + i) d (.slc E x lo hi mx) :: .dops (q :: dyn) c0 (i + 1) rs (ts ++ [(LOp.slc E x lo hi mx).tops (c0 + i) s.fr]) :: k) s cx wr Q := run_dops rfl
theorem run_dg_slc {c0 i t : Nat} {p : Bool} {rs : List LOpr} {E : Nat} {x : LA} {lo : Option LA} {hi : Option LA} {mx : Option LA} : Run base (.dops [] c0 i (⟨d, .slc E x lo hi mx, some (t, p)⟩ :: rs) [] :: k) s cx wr Q ↔ LOp.old c0 s.fr (.slc E x lo hi mx) = true ∧ Run base (.gd (s.fr t) p (c0 + i) d (.slc E x lo hi mx) :: .dops [] c0 (i + 1) rs [] :: k) s cx wr Q := (run_dopsg rfl).trans (and_congr_right fun _ => dops_tsg)
theorem run_ddg_slc {dyn : List (Nat × Nat)} {q : Nat × Nat} {c0 i t : Nat} {p : Bool} {rs : List LOpr} {ts : List (List Nat)} {E : Nat} {x : LA} {lo : Option LA} {hi : Option LA} {mx : Option LA} : Run base (.dops (q :: dyn) c0 i (⟨d, .slc E x lo hi mx, some (t, p)⟩ :: rs) ts :: k) s cx wr Q ↔ LOp.old c0 s.fr (.slc E x lo hi mx) = true ∧ Run base (.gd (s.fr t) p (c0 + i) d (.slc E x lo hi mx) :: .dops (q :: dyn) c0 (i + 1) rs (ts ++ [(LOp.slc E x lo hi mx).tops (c0 + i) s.fr]) :: k) s cx wr Q := run_dopsg rfl
theorem run_d_fa {c0 i : Nat} {rs : List LOpr} {x : LA} {m : Nat} : Run base (.dops [] c0 i (⟨d, .fa x m, none⟩ :: rs) [] :: k) s cx wr Q ↔ Run base (.op (c0 + i) d (.fa x m) :: .dops [] c0 (i + 1) rs [] :: k) s cx wr Q := ((run_dops rfl).trans (and_iff_right rfl)).trans dops_ts
theorem run_dd_fa {dyn : List (Nat × Nat)} {q : Nat × Nat} {c0 i : Nat} {rs : List LOpr} {ts : List (List Nat)} {x : LA} {m : Nat} : Run base (.dops (q :: dyn) c0 i (⟨d, .fa x m, none⟩ :: rs) ts :: k) s cx wr Q ↔ Run base (.op (c0 + i) d (.fa x m) :: .dops (q :: dyn) c0 (i + 1) rs (ts ++ [(LOp.fa x m).tops (c0 + i) s.fr]) :: k) s cx wr Q := (run_dops rfl).trans (and_iff_right rfl)
theorem run_dg_fa {c0 i t : Nat} {p : Bool} {rs : List LOpr} {x : LA} {m : Nat} : Run base (.dops [] c0 i (⟨d, .fa x m, some (t, p)⟩ :: rs) [] :: k) s cx wr Q ↔ Run base (.gd (s.fr t) p (c0 + i) d (.fa x m) :: .dops [] c0 (i + 1) rs [] :: k) s cx wr Q := ((run_dopsg rfl).trans (and_iff_right rfl)).trans dops_tsg
theorem run_ddg_fa {dyn : List (Nat × Nat)} {q : Nat × Nat} {c0 i t : Nat} {p : Bool} {rs : List LOpr} {ts : List (List Nat)} {x : LA} {m : Nat} : Run base (.dops (q :: dyn) c0 i (⟨d, .fa x m, some (t, p)⟩ :: rs) ts :: k) s cx wr Q ↔ Run base (.gd (s.fr t) p (c0 + i) d (.fa x m) :: .dops (q :: dyn) c0 (i + 1) rs (ts ++ [(LOp.fa x m).tops (c0 + i) s.fr]) :: k) s cx wr Q := (run_dopsg rfl).trans (and_iff_right rfl)
theorem run_d_ix {c0 i : Nat} {rs : List LOpr} {E : Nat} {x : LA} {y : LA} : Run base (.dops [] c0 i (⟨d, .ix E x y, none⟩ :: rs) [] :: k) s cx wr Q ↔ Run base (.op (c0 + i) d (.ix E x y) :: .dops [] c0 (i + 1) rs [] :: k) s cx wr Q := ((run_dops rfl).trans (and_iff_right rfl)).trans dops_ts
theorem run_dd_ix {dyn : List (Nat × Nat)} {q : Nat × Nat} {c0 i : Nat} {rs : List LOpr} {ts : List (List Nat)} {E : Nat} {x : LA} {y : LA} : Run base (.dops (q :: dyn) c0 i (⟨d, .ix E x y, none⟩ :: rs) ts :: k) s cx wr Q ↔ Run base (.op (c0 + i) d (.ix E x y) :: .dops (q :: dyn) c0 (i + 1) rs (ts ++ [(LOp.ix E x y).tops (c0 + i) s.fr]) :: k) s cx wr Q := (run_dops rfl).trans (and_iff_right rfl)
theorem run_dg_ix {c0 i t : Nat} {p : Bool} {rs : List LOpr} {E : Nat} {x : LA} {y : LA} : Run base (.dops [] c0 i (⟨d, .ix E x y, some (t, p)⟩ :: rs) [] :: k) s cx wr Q ↔ Run base (.gd (s.fr t) p (c0 + i) d (.ix E x y) :: .dops [] c0 (i + 1) rs [] :: k) s cx wr Q := ((run_dopsg rfl).trans (and_iff_right rfl)).trans dops_tsg
theorem run_ddg_ix {dyn : List (Nat × Nat)} {q : Nat × Nat} {c0 i t : Nat} {p : Bool} {rs : List LOpr} {ts : List (List Nat)} {E : Nat} {x : LA} {y : LA} : Run base (.dops (q :: dyn) c0 i (⟨d, .ix E x y, some (t, p)⟩ :: rs) ts :: k) s cx wr Q ↔ Run base (.gd (s.fr t) p (c0 + i) d (.ix E x y) :: .dops (q :: dyn) c0 (i + 1) rs (ts ++ [(LOp.ix E x y).tops (c0 + i) s.fr]) :: k) s cx wr Q := (run_dopsg rfl).trans (and_iff_right rfl)
theorem run_d_ext {c0 i : Nat} {rs : List LOpr} {x : LA} {m : Nat} : Run base (.dops [] c0 i (⟨d, .ext x m, none⟩ :: rs) [] :: k) s cx wr Q ↔ Run base (.op (c0 + i) d (.ext x m) :: .dops [] c0 (i + 1) rs [] :: k) s cx wr Q := ((run_dops rfl).trans (and_iff_right rfl)).trans dops_ts
theorem run_dd_ext {dyn : List (Nat × Nat)} {q : Nat × Nat} {c0 i : Nat} {rs : List LOpr} {ts : List (List Nat)} {x : LA} {m : Nat} : Run base (.dops (q :: dyn) c0 i (⟨d, .ext x m, none⟩ :: rs) ts :: k) s cx wr Q ↔ Run base (.op (c0 + i) d (.ext x m) :: .dops (q :: dyn) c0 (i + 1) rs (ts ++ [(LOp.ext x m).tops (c0 + i) s.fr]) :: k) s cx wr Q := (run_dops rfl).trans (and_iff_right rfl)
theorem run_dg_ext {c0 i t : Nat} {p : Bool} {rs : List LOpr} {x : LA} {m : Nat} : Run base (.dops [] c0 i (⟨d, .ext x m, some (t, p)⟩ :: rs) [] :: k) s cx wr Q ↔ Run base (.gd (s.fr t) p (c0 + i) d (.ext x m) :: .dops [] c0 (i + 1) rs [] :: k) s cx wr Q := ((run_dopsg rfl).trans (and_iff_right rfl)).trans dops_tsg
theorem run_ddg_ext {dyn : List (Nat × Nat)} {q : Nat × Nat} {c0 i t : Nat} {p : Bool} {rs : List LOpr} {ts : List (List Nat)} {x : LA} {m : Nat} : Run base (.dops (q :: dyn) c0 i (⟨d, .ext x m, some (t, p)⟩ :: rs) ts :: k) s cx wr Q ↔ Run base (.gd (s.fr t) p (c0 + i) d (.ext x m) :: .dops (q :: dyn) c0 (i + 1) rs (ts ++ [(LOp.ext x m).tops (c0 + i) s.fr]) :: k) s cx wr Q := (run_dopsg rfl).trans (and_iff_right rfl)
theorem run_d_len {c0 i : Nat} {rs : List LOpr} {x : LA} {ag : Bool} : Run base (.dops [] c0 i (⟨d, .len x ag, none⟩ :: rs) [] :: k) s cx wr Q ↔ Run base (.op (c0 + i) d (.len x ag) :: .dops [] c0 (i + 1) rs [] :: k) s cx wr Q := ((run_dops rfl).trans (and_iff_right rfl)).trans dops_ts
theorem run_dd_len {dyn : List (Nat × Nat)} {q : Nat × Nat} {c0 i : Nat} {rs : List LOpr} {ts : List (List Nat)} {x : LA} {ag : Bool} : Run base (.dops (q :: dyn) c0 i (⟨d, .len x ag, none⟩ :: rs) ts :: k) s cx wr Q ↔ Run base (.op (c0 + i) d (.len x ag) :: .dops (q :: dyn) c0 (i + 1) rs (ts ++ [(LOp.len x ag).tops (c0 + i) s.fr]) :: k) s cx wr Q := (run_dops rfl).trans (and_iff_right rfl)
theorem run_dg_len {c0 i t : Nat} {p : Bool} {rs : List LOpr} {x : LA} {ag : Bool} : Run base (.dops [] c0 i (⟨d, .len x ag, some (t, p)⟩ :: rs) [] :: k) s cx wr Q ↔ Run base (.gd (s.fr t) p (c0 + i) d (.len x ag) :: .dops [] c0 (i + 1) rs [] :: k) s cx wr Q := ((run_dopsg rfl).trans (and_iff_right rfl)).trans dops_tsg
theorem run_ddg_len {dyn : List (Nat × Nat)} {q : Nat × Nat} {c0 i t : Nat} {p : Bool} {rs : List LOpr} {ts : List (List Nat)} {x : LA} {ag : Bool} : Run base (.dops (q :: dyn) c0 i (⟨d, .len x ag, some (t, p)⟩ :: rs) ts :: k) s cx wr Q ↔ Run base (.gd (s.fr t) p (c0 + i) d (.len x ag) :: .dops (q :: dyn) c0 (i + 1) rs (ts ++ [(LOp.len x ag).tops (c0 + i) s.fr]) :: k) s cx wr Q := (run_dopsg rfl).trans (and_iff_right rfl)
theorem run_d_cap {c0 i : Nat} {rs : List LOpr} {x : LA} : Run base (.dops [] c0 i (⟨d, .cap x, none⟩ :: rs) [] :: k) s cx wr Q ↔ Run base (.op (c0 + i) d (.cap x) :: .dops [] c0 (i + 1) rs [] :: k) s cx wr Q := ((run_dops rfl).trans (and_iff_right rfl)).trans dops_ts
theorem run_dd_cap {dyn : List (Nat × Nat)} {q : Nat × Nat} {c0 i : Nat} {rs : List LOpr} {ts : List (List Nat)} {x : LA} : Run base (.dops (q :: dyn) c0 i (⟨d, .cap x, none⟩ :: rs) ts :: k) s cx wr Q ↔ Run base (.op (c0 + i) d (.cap x) :: .dops (q :: dyn) c0 (i + 1) rs (ts ++ [(LOp.cap x).tops (c0 + i) s.fr]) :: k) s cx wr Q := (run_dops rfl).trans (and_iff_right rfl)
theorem run_dg_cap {c0 i t : Nat} {p : Bool} {rs : List LOpr} {x : LA} : Run base (.dops [] c0 i (⟨d, .cap x, some (t, p)⟩ :: rs) [] :: k) s cx wr Q ↔ Run base (.gd (s.fr t) p (c0 + i) d (.cap x) :: .dops [] c0 (i + 1) rs [] :: k) s cx wr Q := ((run_dopsg rfl).trans (and_iff_right rfl)).trans dops_tsg
theorem run_ddg_cap {dyn : List (Nat × Nat)} {q : Nat × Nat} {c0 i t : Nat} {p : Bool} {rs : List LOpr} {ts : List (List Nat)} {x : LA} : Run base (.dops (q :: dyn) c0 i (⟨d, .cap x, some (t, p)⟩ :: rs) ts :: k) s cx wr Q ↔ Run base (.gd (s.fr t) p (c0 + i) d (.cap x) :: .dops (q :: dyn) c0 (i + 1) rs (ts ++ [(LOp.cap x).tops (c0 + i) s.fr]) :: k) s cx wr Q := (run_dopsg rfl).trans (and_iff_right rfl)
theorem run_d_mm {c0 i : Nat} {rs : List LOpr} {ag : Bool} {x : LA} {ls : List LA} : Run base (.dops [] c0 i (⟨d, .mm ag x ls, none⟩ :: rs) [] :: k) s cx wr Q ↔ Run base (.op (c0 + i) d (.mm ag x ls) :: .dops [] c0 (i + 1) rs [] :: k) s cx wr Q := ((run_dops rfl).trans (and_iff_right rfl)).trans dops_ts
theorem run_dd_mm {dyn : List (Nat × Nat)} {q : Nat × Nat} {c0 i : Nat} {rs : List LOpr} {ts : List (List Nat)} {ag : Bool} {x : LA} {ls : List LA} : Run base (.dops (q :: dyn) c0 i (⟨d, .mm ag x ls, none⟩ :: rs) ts :: k) s cx wr Q ↔ Run base (.op (c0 + i) d (.mm ag x ls) :: .dops (q :: dyn) c0 (i + 1) rs (ts ++ [(LOp.mm ag x ls).tops (c0 + i) s.fr]) :: k) s cx wr Q := (run_dops rfl).trans (and_iff_right rfl)
theorem run_dg_mm {c0 i t : Nat} {p : Bool} {rs : List LOpr} {ag : Bool} {x : LA} {ls : List LA} : Run base (.dops [] c0 i (⟨d, .mm ag x ls, some (t, p)⟩ :: rs) [] :: k) s cx wr Q ↔ Run base (.gd (s.fr t) p (c0 + i) d (.mm ag x ls) :: .dops [] c0 (i + 1) rs [] :: k) s cx wr Q := ((run_dopsg rfl).trans (and_iff_right rfl)).trans dops_tsg
theorem run_ddg_mm {dyn : List (Nat × Nat)} {q : Nat × Nat} {c0 i t : Nat} {p : Bool} {rs : List LOpr} {ts : List (List Nat)} {ag : Bool} {x : LA} {ls : List LA} : Run base (.dops (q :: dyn) c0 i (⟨d, .mm ag x ls, some (t, p)⟩ :: rs) ts :: k) s cx wr Q ↔ Run base (.gd (s.fr t) p (c0 + i) d (.mm ag x ls) :: .dops (q :: dyn) c0 (i + 1) rs (ts ++ [(LOp.mm ag x ls).tops (c0 + i) s.fr]) :: k) s cx wr Q := (run_dopsg rfl).trans (and_iff_right rfl)
theorem run_d_app {c0 i : Nat} {rs : List LOpr} {E : Nat} {m : Nat} {x : LA} {y : LA} : Run base (.dops [] c0 i (⟨d, .app E m x y, none⟩ :: rs) [] :: k) s cx wr Q ↔ Run base (.op (c0 + i) d (.app E m x y) :: .dops [] c0 (i + 1) rs [] :: k) s cx wr Q := ((run_dops rfl).trans (and_iff_right rfl)).trans dops_ts
theorem run_dd_app {dyn : List (Nat × Nat)} {q : Nat × Nat} {c0 i : Nat} {rs : List LOpr} {ts : List (List Nat)} {E : Nat} {m : Nat} {x : LA} {y : LA} : Run base (.dops (q :: dyn) c0 i (⟨d, .app E m x y, none⟩ :: rs) ts :: k) s cx wr Q ↔ Run base (.op (c0 + i) d (.app E m x y) :: .dops (q :: dyn) c0 (i + 1) rs (ts ++ [(LOp.app E m x y).tops (c0 + i) s.fr]) :: k) s cx wr Q := (run_dops rfl).trans (and_iff_right rfl)
theorem run_dg_app {c0 i t : Nat} {p : Bool} {rs : List LOpr} {E : Nat} {m : Nat} {x : LA} {y : LA} : Run base (.dops [] c0 i (⟨d, .app E m x y, some (t, p)⟩ :: rs) [] :: k) s cx wr Q ↔ Run base (.gd (s.fr t) p (c0 + i) d (.app E m x y) :: .dops [] c0 (i + 1) rs [] :: k) s cx wr Q := ((run_dopsg rfl).trans (and_iff_right rfl)).trans dops_tsg
theorem run_ddg_app {dyn : List (Nat × Nat)} {q : Nat × Nat} {c0 i t : Nat} {p : Bool} {rs : List LOpr} {ts : List (List Nat)} {E : Nat} {m : Nat} {x : LA} {y : LA} : Run base (.dops (q :: dyn) c0 i (⟨d, .app E m x y, some (t, p)⟩ :: rs) ts :: k) s cx wr Q ↔ Run base (.gd (s.fr t) p (c0 + i) d (.app E m x y) :: .dops (q :: dyn) c0 (i + 1) rs (ts ++ [(LOp.app E m x y).tops (c0 + i) s.fr]) :: k) s cx wr Q := (run_dopsg rfl).trans (and_iff_right rfl)
theorem run_d_appz {c0 i : Nat} {rs : List LOpr} {E : Nat} {m : Nat} {zs : List AV} {x : LA} {y : LA} : Run base (.dops [] c0 i (⟨d, .appz E m zs x y, none⟩ :: rs) [] :: k) s cx wr Q ↔ Run base (.op (c0 + i) d (.appz E m zs x y) :: .dops [] c0 (i + 1) rs [] :: k) s cx wr Q := ((run_dops rfl).trans (and_iff_right rfl)).trans dops_ts
theorem run_dd_appz {dyn : List (Nat × Nat)} {q : Nat × Nat} {c0 i : Nat} {rs : List LOpr} {ts : List (List Nat)} {E : Nat} {m : Nat} {zs : List AV} {x : LA} {y : LA} : Run base (.dops (q :: dyn) c0 i (⟨d, .appz E m zs x y, none⟩ :: rs) ts :: k) s cx wr Q ↔ Run base (.op (c0 + i) d (.appz E m zs x y) :: .dops (q :: dyn) c0 (i + 1) rs (ts ++ [(LOp.appz E m zs x y).tops (c0 + i) s.fr]) :: k) s cx wr Q := (run_dops rfl).trans (and_iff_right rfl)
theorem run_dg_appz {c0 i t : Nat} {p : Bool} {rs : List LOpr} {E : Nat} {m : Nat} {zs : List AV} {x : LA} {y : LA} : Run base (.dops [] c0 i (⟨d, .appz E m zs x y, some (t, p)⟩ :: rs) [] :: k) s cx wr Q ↔ Run base (.gd (s.fr t) p (c0 + i) d (.appz E m zs x y) :: .dops [] c0 (i + 1) rs [] :: k) s cx wr Q := ((run_dopsg rfl).trans (and_iff_right rfl)).trans dops_tsg
theorem run_ddg_appz {dyn : List (Nat × Nat)} {q : Nat × Nat} {c0 i t : Nat} {p : Bool} {rs : List LOpr} {ts : List (List Nat)} {E : Nat} {m : Nat} {zs : List AV} {x : LA} {y : LA} : Run base (.dops (q :: dyn) c0 i (⟨d, .appz E m zs x y, some (t, p)⟩ :: rs) ts :: k) s cx wr Q ↔ Run base (.gd (s.fr t) p (c0 + i) d (.appz E m zs x y) :: .dops (q :: dyn) c0 (i + 1) rs (ts ++ [(LOp.appz E m zs x y).tops (c0 + i) s.fr]) :: k) s cx wr Q := (run_dopsg rfl).trans (and_iff_right rfl)
theorem run_d_isnil {c0 i : Nat} {rs : List LOpr} {x : LA} : Run base (.dops [] c0 i (⟨d, .isnil x, none⟩ :: rs) [] :: k) s cx wr Q ↔ Run base (.op (c0 + i) d (.isnil x) :: .dops [] c0 (i + 1) rs [] :: k) s cx wr Q := ((run_dops rfl).trans (and_iff_right rfl)).trans dops_ts
theorem run_dd_isnil {dyn : List (Nat × Nat)} {q : Nat × Nat} {c0 i : Nat} {rs : List LOpr} {ts : List (List Nat)} {x : LA} : Run base (.dops (q :: dyn) c0 i (⟨d, .isnil x, none⟩ :: rs) ts :: k) s cx wr Q ↔ Run base (.op (c0 + i) d (.isnil x) :: .dops (q :: dyn) c0 (i + 1) rs (ts ++ [(LOp.isnil x).tops (c0 + i) s.fr]) :: k) s cx wr Q := (run_dops rfl).trans (and_iff_right rfl)
theorem run_dg_isnil {c0 i t : Nat} {p : Bool} {rs : List LOpr} {x : LA} : Run base (.dops [] c0 i (⟨d, .isnil x, some (t, p)⟩ :: rs) [] :: k) s cx wr Q ↔ Run base (.gd (s.fr t) p (c0 + i) d (.isnil x) :: .dops [] c0 (i + 1) rs [] :: k) s cx wr Q := ((run_dopsg rfl).trans (and_iff_right rfl)).trans dops_tsg
theorem run_ddg_isnil {dyn : List (Nat × Nat)} {q : Nat × Nat} {c0 i t : Nat} {p : Bool} {rs : List LOpr} {ts : List (List Nat)} {x : LA} : Run base (.dops (q :: dyn) c0 i (⟨d, .isnil x, some (t, p)⟩ :: rs) ts :: k) s cx wr Q ↔ Run base (.gd (s.fr t) p (c0 + i) d (.isnil x) :: .dops (q :: dyn) c0 (i + 1) rs (ts ++ [(LOp.isnil x).tops (c0 + i) s.fr]) :: k) s cx wr Q := (run_dopsg rfl).trans (and_iff_right rfl)
theorem run_d_six {c0 i : Nat} {rs : List LOpr} {x : LA} {y : LA} : Run base (.dops [] c0 i (⟨d, .six x y, none⟩ :: rs) [] :: k) s cx wr Q ↔ Run base (.op (c0 + i) d (.six x y) :: .dops [] c0 (i + 1) rs [] :: k) s cx wr Q := ((run_dops rfl).trans (and_iff_right rfl)).trans dops_ts
theorem run_dd_six {dyn : List (Nat × Nat)} {q : Nat × Nat} {c0 i : Nat} {rs : List LOpr} {ts : List (List Nat)} {x : LA} {y : LA} : Run base (.dops (q :: dyn) c0 i (⟨d, .six x y, none⟩ :: rs) ts :: k) s cx wr Q ↔ Run base (.op (c0 + i) d (.six x y) :: .dops (q :: dyn) c0 (i + 1) rs (ts ++ [(LOp.six x y).tops (c0 + i) s.fr]) :: k) s cx wr Q := (run_dops rfl).trans (and_iff_right rfl)
theorem run_dg_six {c0 i t : Nat} {p : Bool} {rs : List LOpr} {x : LA} {y : LA} : Run base (.dops [] c0 i (⟨d, .six x y, some (t, p)⟩ :: rs) [] :: k) s cx wr Q ↔ Run base (.gd (s.fr t) p (c0 + i) d (.six x y) :: .dops [] c0 (i + 1) rs [] :: k) s cx wr Q := ((run_dopsg rfl).trans (and_iff_right rfl)).trans dops_tsg
theorem run_ddg_six {dyn : List (Nat × Nat)} {q : Nat × Nat} {c0 i t : Nat} {p : Bool} {rs : List LOpr} {ts : List (List Nat)} {x : LA} {y : LA} : Run base (.dops (q :: dyn) c0 i (⟨d, .six x y, some (t, p)⟩ :: rs) ts :: k) s cx wr Q ↔ Run base (.gd (s.fr t) p (c0 + i) d (.six x y) :: .dops (q :: dyn) c0 (i + 1) rs (ts ++ [(LOp.six x y).tops (c0 + i) s.fr]) :: k) s cx wr Q := (run_dopsg rfl).trans (and_iff_right rfl)
theorem run_d_clr {c0 i : Nat} {rs : List LOpr} {zs : List AV} {x : LA} : Run base (.dops [] c0 i (⟨d, .clr zs x, none⟩ :: rs) [] :: k) s cx wr Q ↔ Run base (.op (c0 + i) d (.clr zs x) :: .dops [] c0 (i + 1) rs [] :: k) s cx wr Q := ((run_dops rfl).trans (and_iff_right rfl)).trans dops_ts
theorem run_dd_clr {dyn : List (Nat × Nat)} {q : Nat × Nat} {c0 i : Nat} {rs : List LOpr} {ts : List (List Nat)} {zs : List AV} {x : LA} : Run base (.dops (q :: dyn) c0 i (⟨d, .clr zs x, none⟩ :: rs) ts :: k) s cx wr Q ↔ Run base (.op (c0 + i) d (.clr zs x) :: .dops (q :: dyn) c0 (i + 1) rs (ts ++ [(LOp.clr zs x).tops (c0 + i) s.fr]) :: k) s cx wr Q := (run_dops rfl).trans (and_iff_right rfl)
theorem run_dg_clr {c0 i t : Nat} {p : Bool} {rs : List LOpr} {zs : List AV} {x : LA} : Run base (.dops [] c0 i (⟨d, .clr zs x, some (t, p)⟩ :: rs) [] :: k) s cx wr Q ↔ Run base (.gd (s.fr t) p (c0 + i) d (.clr zs x) :: .dops [] c0 (i + 1) rs [] :: k) s cx wr Q := ((run_dopsg rfl).trans (and_iff_right rfl)).trans dops_tsg
theorem run_ddg_clr {dyn : List (Nat × Nat)} {q : Nat × Nat} {c0 i t : Nat} {p : Bool} {rs : List LOpr} {ts : List (List Nat)} {zs : List AV} {x : LA} : Run base (.dops (q :: dyn) c0 i (⟨d, .clr zs x, some (t, p)⟩ :: rs) ts :: k) s cx wr Q ↔ Run base (.gd (s.fr t) p (c0 + i) d (.clr zs x) :: .dops (q :: dyn) c0 (i + 1) rs (ts ++ [(LOp.clr zs x).tops (c0 + i) s.fr]) :: k) s cx wr Q := (run_dopsg rfl).trans (and_iff_right rfl)
theorem run_d_call {c0 i : Nat} {rs : List LOpr} {f : Nat} {ls : List LA} : Run base (.dops [] c0 i (⟨d, .call f ls, none⟩ :: rs) [] :: k) s cx wr Q ↔ Run base (.op (c0 + i) d (.call f ls) :: .dops [] c0 (i + 1) rs [] :: k) s cx wr Q := ((run_dops rfl).trans (and_iff_right rfl)).trans dops_ts
theorem run_dd_call {dyn : List (Nat × Nat)} {q : Nat × Nat} {c0 i : Nat} {rs : List LOpr} {ts : List (List Nat)} {f : Nat} {ls : List LA} : Run base (.dops (q :: dyn) c0 i (⟨d, .call f ls, none⟩ :: rs) ts :: k) s cx wr Q ↔ Run base (.op (c0 + i) d (.call f ls) :: .dops (q :: dyn) c0 (i + 1) rs (ts ++ [(LOp.call f ls).tops (c0 + i) s.fr]) :: k) s cx wr Q := (run_dops rfl).trans (and_iff_right rfl)
theorem run_dg_call {c0 i t : Nat} {p : Bool} {rs : List LOpr} {f : Nat} {ls : List LA} : Run base (.dops [] c0 i (⟨d, .call f ls, some (t, p)⟩ :: rs) [] :: k) s cx wr Q ↔ Run base (.gd (s.fr t) p (c0 + i) d (.call f ls) :: .dops [] c0 (i + 1) rs [] :: k) s cx wr Q := ((run_dopsg rfl).trans (and_iff_right rfl)).trans dops_tsg
theorem run_ddg_call {dyn : List (Nat × Nat)} {q : Nat × Nat} {c0 i t : Nat} {p : Bool} {rs : List LOpr} {ts : List (List Nat)} {f : Nat} {ls : List LA} : Run base (.dops (q :: dyn) c0 i (⟨d, .call f ls, some (t, p)⟩ :: rs) ts :: k) s cx wr Q ↔ Run base (.gd (s.fr t) p (c0 + i) d (.call f ls) :: .dops (q :: dyn) c0 (i + 1) rs (ts ++ [(LOp.call f ls).tops (c0 + i) s.fr]) :: k) s cx wr Q := (run_dopsg rfl).trans (and_iff_right rfl)
theorem run_d_callv {c0 i : Nat} {rs : List LOpr} {x : LA} {ls : List LA} : Run base (.dops [] c0 i (⟨d, .callv x ls, none⟩ :: rs) [] :: k) s cx wr Q ↔ Run base (.op (c0 + i) d (.callv x ls) :: .dops [] c0 (i + 1) rs [] :: k) s cx wr Q := ((run_dops rfl).trans (and_iff_right rfl)).trans dops_ts
theorem run_dd_callv {dyn : List (Nat × Nat)} {q : Nat × Nat} {c0 i : Nat} {rs : List LOpr} {ts : List (List Nat)} {x : LA} {ls : List LA} : Run base (.dops (q :: dyn) c0 i (⟨d, .callv x ls, none⟩ :: rs) ts :: k) s cx wr Q ↔ Run base (.op (c0 + i) d (.callv x ls) :: .dops (q :: dyn) c0 (i + 1) rs (ts ++ [(LOp.callv x ls).tops (c0 + i) s.fr]) :: k) s cx wr Q := (run_dops rfl).trans (and_iff_right rfl)
theorem run_dg_callv {c0 i t : Nat} {p : Bool} {rs : List LOpr} {x : LA} {ls : List LA} : Run base (.dops [] c0 i (⟨d, .callv x ls, some (t, p)⟩ :: rs) [] :: k) s cx wr Q ↔ Run base (.gd (s.fr t) p (c0 + i) d (.callv x ls) :: .dops [] c0 (i + 1) rs [] :: k) s cx wr Q := ((run_dopsg rfl).trans (and_iff_right rfl)).trans dops_tsg
theorem run_ddg_callv {dyn : List (Nat × Nat)} {q : Nat × Nat} {c0 i t : Nat} {p : Bool} {rs : List LOpr} {ts : List (List Nat)} {x : LA} {ls : List LA} : Run base (.dops (q :: dyn) c0 i (⟨d, .callv x ls, some (t, p)⟩ :: rs) ts :: k) s cx wr Q ↔ Run base (.gd (s.fr t) p (c0 + i) d (.callv x ls) :: .dops (q :: dyn) c0 (i + 1) rs (ts ++ [(LOp.callv x ls).tops (c0 + i) s.fr]) :: k) s cx wr Q := (run_dopsg rfl).trans (and_iff_right rfl)

theorem run_dops_nil {dyn : List (Nat × Nat)} {c0 i : Nat} {ts : List (List Nat)} : Run base (.dops dyn c0 i [] ts :: k) s cx wr Q ↔ dyn.all (fun p => disj (ts.getD p.1 []) (ts.getD p.2 [])) = true ∧ Run base k s cx wr Q := by
  refine WDs_nil.trans ?_
  simp only [List.append_nil]; exact Iff.rfl

theorem run_d_nil {c0 i : Nat} {ts : List (List Nat)} : Run base (.dops [] c0 i [] ts :: k) s cx wr Q ↔ Run base k s cx wr Q := run_dops_nil.trans (and_iff_right rfl)

theorem run_dops_kc {dyn : List (Nat × Nat)} {c0 i f : Nat} {args : List LA} {rs : List LOpr} {ts : List (List Nat)} : Run base (.dops dyn c0 i (⟨d, .kcall f args, none⟩ :: rs) ts :: k) s cx wr Q ↔
    Run base (.kc f (evs s.fr args) d :: .dops dyn c0 (i + 1) rs (ts ++ [[]]) :: k) s cx wr Q := by
  refine WDs_cons.trans ?_
  simp only [WOp_plain, WGo_kcall, LOp.cls, LOp.tops, List.all_nil, Bool.not_true, Bool.and_false, Bool.false_or, decide_true, Bool.true_and]
  simp only [Run, Go, List.append_assoc, List.singleton_append]

theorem run_dops_pc {dyn : List (Nat × Nat)} {c0 i f : Nat} {args : List LA} {rs : List LOpr} {ts : List (List Nat)} : Run base (.dops dyn c0 i (⟨d, .pcall f args, none⟩ :: rs) ts :: k) s cx wr Q ↔
    Run base (.pc f (evs s.fr args) d :: .dops dyn c0 (i + 1) rs (ts ++ [[]]) :: k) s cx wr Q := by
  refine WDs_cons.trans ?_
  simp only [WOp_plain, WGo_pcall, LOp.cls, LOp.tops, List.all_nil, Bool.not_true, Bool.and_false, Bool.false_or, reduceCtorEq, decide_false, Bool.false_and, true_and]
  simp only [Run, Go, List.append_assoc, List.singleton_append]

theorem run_d_kc {c0 i f : Nat} {args : List LA} {rs : List LOpr} : Run base (.dops [] c0 i (⟨d, .kcall f args, none⟩ :: rs) [] :: k) s cx wr Q ↔ Run base (.kc f (evs s.fr args) d :: .dops [] c0 (i + 1) rs [] :: k) s cx wr Q := run_dops_kc.trans (by simp only [Run, Go, List.all_nil])
theorem run_d_pc {c0 i f : Nat} {args : List LA} {rs : List LOpr} : Run base (.dops [] c0 i (⟨d, .pcall f args, none⟩ :: rs) [] :: k) s cx wr Q ↔ Run base (.pc f (evs s.fr args) d :: .dops [] c0 (i + 1) rs [] :: k) s cx wr Q := run_dops_pc.trans (by simp only [Run, Go, List.all_nil])

/-- A LOOP: an invariant with a number that every round lowers. -/
theorem run_while {a : LCode} (I : Nat → St → Nat → Bool → Prop) (n : Nat) (h0 : I n s cx wr)
    (round : ∀ n s cx wr, I n s cx wr → Run base [.code a] s cx wr (fun e s' cx' wr' => match e with | .normal => ∃ n', n' < n ∧ I n' s' cx' wr' | e => Go base Q k e s' cx' wr')) : Run base (.code (.loop a) :: k) s cx wr Q := by
  refine W_while I n h0 fun n s cx wr hI => ?_
  refine W_mono (round n s cx wr hI) fun e s cx wr h => ?_
  cases e <;> exact h

theorem fn_run {f : Nat} {kc : FCode} (hk : codes.get f = some kc) {args : List AV} {H : Heap} {K : Out → Prop} (hn : cloneNone kc args = false) (hl : args.length ≤ kc.nt)
    (h : Run cx [.code kc.c] (initA args H) cx false fun e s cx' wr => e.done = true ∧ onSome (retV s.fr s.H kc.r) fun v => K ⟨v, s.H, cx', wr⟩) : Fn f args H cx K := by
  refine (fn_iff hk hn hl).2 (W_mono h fun e s cx wr h => ?_)
  cases e <;> exact h
end

/-! ### Small change -/

theorem tops_undef : AV.tops undefAV = [] := rfl
theorem tops_np {nm o : Nat} : AV.tops (.np nm o) = [nm] := rfl
theorem tops_rp {cs : List AV} : AV.tops (.rp cs) = [] := rfl
theorem tops_gs {nm E o l : Nat} : AV.tops (.gs nm E o l) = [nm] := rfl
theorem tops_ns {nm E o l c : Nat} : AV.tops (.ns nm E o l c) = [nm] := rfl

theorem wrap64 (n : Int) : IntKind.i64.wrap n = (n + 9223372036854775808) % 18446744073709551616 - 9223372036854775808 := by
  simp only [IntKind.wrap, IntKind.signed, IntKind.bits]
  simp
  split <;> omega

theorem wrap64_id {n : Int} (h0 : -9223372036854775808 ≤ n) (h1 : n ≤ 9223372036854775807) : IntKind.i64.wrap n = n := by rw [wrap64]; omega

theorem wrap_succ {i : Nat} (h : i < 1152921504606846976) : IntKind.i64.wrap ((i : Int) + 1) = ((i + 1 : Nat) : Int) := by rw [wrap64_id] <;> omega

theorem ix_ro {E i : Nat} {xs : List (List AV)} {c : Bool} {k : IntKind} (h : i < xs.length) : ixV E (.ro E xs c) (.int k (i : Int)) = some (.rp xs[i]) := by
  simp only [ixV]
  rw [if_pos ⟨trivial, by omega, by omega⟩]
  simp [List.getD, h]

theorem slc_clip {fr : Nat → AV} {H : Heap} {E : Nat} {xs : List (List AV)} {c : Bool} {x y : LA} (hx : x.ev fr = .int .i64 xs.length) (hy : y.ev fr = .int .i64 xs.length) : sliceV fr H E (.ro E xs c) none (some x) (some y) = some (.ro E xs true) := by
  simp only [sliceV, bndV, hx, hy, Option.map_some]
  rw [if_pos ⟨trivial, by omega, by omega, by omega, by omega⟩]
  simp

theorem els_ro {H : Heap} {E : Nat} {xs : List (List AV)} {c : Bool} : elsV H E (.ro E xs c) = some xs := by simp only [elsV, if_true]
theorem els_gs {H : Heap} {E nm n : Nat} {xs : List (List AV)} (h : H nm = some (.gro E xs)) (hn : n = xs.length) : elsV H E (.gs nm E 0 n) = some xs := by
  subst hn
  simp only [elsV, h]
  rw [if_pos ⟨trivial, trivial, by omega⟩]
  simp

/-- Appended to what may not grow in place. -/
theorem app_new {H : Heap} {nm E bytes : Nat} {xs ys : List (List AV)} (hy : ys ≠ []) (hn : H nm = none) (hb : (xs.length + ys.length) * bytes ≤ 1099511627776) : appV H nm E bytes (.ro E xs true) (some ys) = some (.gs nm E 0 (xs.length + ys.length), [(nm, .gro E (xs ++ ys))]) := by
  cases ys with
  | nil => exact absurd rfl hy
  | cons y r =>
    simp only [appV, appC]
    rw [if_pos ⟨trivial, hb⟩]
    simp only [ifNew, hn]

/-- Appended to a growing slice. -/
theorem app_gs {H : Heap} {nm nm0 E bytes n : Nat} {xs ys : List (List AV)} (hy : ys ≠ []) (hn : H nm = none) (h0 : H nm0 = some (.gro E xs)) (hx : n = xs.length) (hb : (xs.length + ys.length) * bytes ≤ 1099511627776) : appV H nm E bytes (.gs nm0 E 0 n) (some ys) = some (.gs nm E 0 (n + ys.length), [(nm, .gro E (xs ++ ys)), (nm0, .dead)]) := by
  subst hx
  cases ys with
  | nil => exact absurd rfl hy
  | cons y r =>
    simp only [appV, appC, h0]
    rw [if_neg (by simp), if_pos ⟨trivial, trivial, trivial, trivial, hb⟩]
    simp only [hn]

theorem optL_id {α : Type} {f : α → Option α} : ∀ {xs : List α}, (∀ x ∈ xs, f x = some x) → optL f xs = some xs
  | [], _ => rfl
  | x :: r, h => by
    simp only [optL, h x (by simp), optL_id (xs := r) fun y hy => h y (by simp [hy])]

theorem freeze_gs {H : Heap} {nm E n : Nat} {xs : List (List AV)} (h : H nm = some (.gro E xs)) (hn : n = xs.length) (hp : ∀ x ∈ xs, x.all (AV.plainN 23) = true) : freeze H depth (.gs nm E 0 n) = some (.ro E xs false) := by
  show freeze H (23 + 1) _ = _
  have hf : ∀ (m : Nat), (∀ x ∈ xs, x.all (AV.plainN (m + 1)) = true) → freeze H (m + 1 + 1) (.gs nm E 0 n) = some (.ro E xs false) := fun m hp => by
    rw [freeze]
    rw [if_neg (by simp [AV.plainN])]
    simp only [els_gs h hn]
    rw [optL_id fun x hx => optL_id fun a ha => freeze_plain' m (List.all_eq_true.1 (hp x hx) a ha)]
    rfl
  exact hf 22 hp

theorem slc_clip_gs {fr : Nat → AV} {H : Heap} {E nm n : Nat} {xs : List (List AV)} {x y : LA} (h : H nm = some (.gro E xs)) (hn : n = xs.length) (h0 : 0 < n) (hx : x.ev fr = .int .i64 n) (hy : y.ev fr = .int .i64 n) : sliceV fr H E (.gs nm E 0 n) none (some x) (some y) = some (.ns nm E 0 n n) := by
  simp only [sliceV, bndV, hx, hy, Option.map_some, h]
  rw [if_pos ⟨trivial, by omega, by omega, by omega, by omega, by omega⟩]
  simp

theorem els_ns {H : Heap} {E nm n cap : Nat} {xs : List (List AV)} (h : H nm = some (.gro E xs)) (hx : ∀ x ∈ xs, x.length = E) (hn : n = xs.length) : elsV H E (.ns nm E 0 n cap) = some xs := by
  subst hn
  simp only [elsV, cellsAt, h, Option.bind_some, HO.cells]
  rw [if_pos ⟨trivial, by rw [flatten_len hx]; omega⟩, List.drop_zero, chunk_of_flatten hx]

theorem freeze_ns {H : Heap} {nm E n cap : Nat} (m : Nat) {xs : List (List AV)} (h : H nm = some (.gro E xs)) (hx : ∀ x ∈ xs, x.length = E) (hn : n = xs.length) (hc : n ≤ cap) (hp : ∀ x ∈ xs, x.all (AV.plainN (m + 1)) = true) : freeze H (m + 1 + 1) (.ns nm E 0 n cap) = some (.ro E xs (n == cap)) := by
  rw [freeze]
  rw [if_neg (by simp [AV.plainN])]
  simp only [els_ns (cap := cap) h hx hn]
  rw [if_pos hc, optL_id fun x hx => optL_id fun a ha => freeze_plain' m (List.all_eq_true.1 (hp x hx) a ha)]
  rfl

theorem freeze_tup {H : Heap} {n : Nat} {cs ds : List AV} (h : optL (freeze H n) cs = some ds) (hp : (AV.tup cs).plainN (n + 1) = false) : freeze H (n + 1) (.tup cs) = some (.tup ds) := by
  rw [freeze, if_neg (by rw [hp]; simp), h]; rfl
theorem freeze_agg {H : Heap} {n : Nat} {cs ds : List AV} (h : optL (freeze H n) cs = some ds) (hp : (AV.agg cs).plainN (n + 1) = false) : freeze H (n + 1) (.agg cs) = some (.agg ds) := by
  rw [freeze, if_neg (by rw [hp]; simp), h]; rfl
theorem optL_cons {α β : Type} {f : α → Option β} {a : α} {b : β} {r : List α} {s : List β} (h : f a = some b) (g : optL f r = some s) : optL f (a :: r) = some (b :: s) := by simp only [optL, h, g]
theorem optL_nil {α β : Type} {f : α → Option β} : optL f [] = some [] := rfl

theorem plain_map {α : Type} {f : α → List AV} (h : ∀ a, (f a).all (AV.plainN 23) = true) {E : Nat} {xs : List α} {c : Bool} : (AV.ro E (xs.map f) c).plainN depth = true := by
  show (xs.map f).all (fun x => x.all (AV.plainN 23)) = true
  rw [List.all_eq_true]
  intro x hx
  obtain ⟨a, _, rfl⟩ := List.mem_map.1 hx
  exact h a

theorem Bd.at {H : Heap} {cx : Nat} (h : Bd H cx) (j : Nat) : H (cx + j) = none := h _ (by omega)
theorem Bd.at0 {H : Heap} {cx : Nat} (h : Bd H cx) : H cx = none := h _ (Nat.le_refl _)
theorem ne_of_old {n cx : Nat} (h : n < cx) (j : Nat) : (n = cx + j) = False := eq_false (by omega)
theorem ne_of_old' {n cx : Nat} (h : n < cx) (j : Nat) : (cx + j = n) = False := eq_false (by omega)

theorem Bd.upd {H : Heap} {cx cx' nm : Nat} {o : Option HO} (h : Bd H cx) (h1 : cx ≤ cx') (h2 : nm < cx') : Bd (upd H nm o) cx' := fun q hq => by
  rw [upd_ne _ _ _ (by omega)]; exact h q (by omega)
theorem Bd.no : Bd noH 0 := fun _ _ => rfl
theorem Bd.le {H : Heap} {cx cx' : Nat} (h : Bd H cx) (h1 : cx ≤ cx') : Bd H cx' := fun q hq => h q (by omega)

end Go.Proofs.YtfhflogbffibiaaGreat
