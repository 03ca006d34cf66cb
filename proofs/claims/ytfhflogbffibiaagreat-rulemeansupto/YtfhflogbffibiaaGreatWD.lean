/-
  The program's data as Lean's.
-/
import Derived.Test.YtfhflogbffibiaaGreatWS
namespace Go.Proofs.YtfhflogbffibiaaGreat
open Go
set_option linter.unusedSimpArgs false
set_option linter.unusedVariables false

/-- A slice that nobody writes: its elements; is its capacity its length? -/
structure Sl (α : Type) where
  l : List α
  c : Bool

structure Rate where
  qos : Int
  frm : Int
  price : Int
structure Draw where
  alloc : Int
  amount : Int
structure Leg where
  acct : Int
  amount : Int
structure Fund where
  name : ByteArray
  parent : Int
  limit : Int
structure Alloc where
  fund : Int
  frm : Int
  til : Int
  avail : Int
  liened : Int
  spent : Int
structure Job where
  id : Int
  fund : Int
  nodes : Int
  wall : Int
  qos : Int
  prio : Int
  price : Int
  state : Int
  start : Int
  mask : Int
  used : Int
  draws : Sl Draw
structure State where
  seq : Int
  world : Int
  next : Int
  funds : Sl Fund
  allocs : Sl Alloc
  rates : Sl Rate
  jobs : Sl Job
  keys : Sl ByteArray
structure Tx where
  seq : Int
  time : Int
  kind : Int
  key : ByteArray
  name : ByteArray
  args : Sl Int
  legs : Sl Leg
structure Cfg where
  nodes : Int
  mode : Int
  slot : Int
  log : Int
structure Cmd where
  kind : Int
  key : ByteArray
  name : ByteArray
  args : Sl Int

def Rate.cells (r : Rate) : List AV := [.int .i64 r.qos, .int .i64 r.frm, .int .i64 r.price]
def Draw.cells (d : Draw) : List AV := [.int .i64 d.alloc, .int .i64 d.amount]
def Leg.cells (d : Leg) : List AV := [.int .i64 d.acct, .int .i64 d.amount]
def Fund.cells (f : Fund) : List AV := [.str f.name, .int .i64 f.parent, .int .i64 f.limit]
def Alloc.cells (a : Alloc) : List AV := [.int .i64 a.fund, .int .i64 a.frm, .int .i64 a.til, .int .i64 a.avail, .int .i64 a.liened, .int .i64 a.spent]
def intC (n : Int) : List AV := [.int .i64 n]
def strC (b : ByteArray) : List AV := [.str b]
def Job.cells (j : Job) : List AV := [.int .i64 j.id, .int .i64 j.fund, .int .i64 j.nodes, .int .i64 j.wall, .int .i64 j.qos, .int .i64 j.prio, .int .i64 j.price, .int .i64 j.state, .int .i64 j.start, .int .i64 j.mask, .int .i64 j.used, .ro 2 (j.draws.l.map Draw.cells) j.draws.c]
def State.cells (s : State) : List AV := [.int .i64 s.seq, .int .i64 s.world, .int .i64 s.next, .ro 3 (s.funds.l.map Fund.cells) s.funds.c, .ro 6 (s.allocs.l.map Alloc.cells) s.allocs.c, .ro 3 (s.rates.l.map Rate.cells) s.rates.c, .ro 12 (s.jobs.l.map Job.cells) s.jobs.c, .ro 1 (s.keys.l.map strC) s.keys.c]
def Tx.cells (t : Tx) : List AV := [.int .i64 t.seq, .int .i64 t.time, .int .i64 t.kind, .str t.key, .str t.name, .ro 1 (t.args.l.map intC) t.args.c, .ro 2 (t.legs.l.map Leg.cells) t.legs.c]
def Cfg.cells (c : Cfg) : List AV := [.int .i64 c.nodes, .int .i64 c.mode, .int .i64 c.slot, .int .i64 c.log]
def Cmd.cells (x : Cmd) : List AV := [.int .i64 x.kind, .str x.key, .str x.name, .ro 1 (x.args.l.map intC) x.args.c]

theorem plain_rates {rs : List Rate} {c : Bool} : (AV.ro 3 (rs.map Rate.cells) c).plainN depth = true := plain_map fun _ => rfl
theorem plain_ints {l : List Int} {c : Bool} : (AV.ro 1 (l.map intC) c).plainN depth = true := plain_map fun _ => rfl

theorem plainN_map {α : Type} {f : α → List AV} {n : Nat} (h : ∀ a, (f a).all (AV.plainN n) = true) {E : Nat} {xs : List α} {c : Bool} : (AV.ro E (xs.map f) c).plainN (n + 1) = true := by
  show (xs.map f).all (fun x => x.all (AV.plainN n)) = true
  rw [List.all_eq_true]
  intro x hx
  obtain ⟨a, _, rfl⟩ := List.mem_map.1 hx
  exact h a

theorem Job.plain (n : Nat) (j : Job) : j.cells.all (AV.plainN (n + 3)) = true := by
  simp only [Job.cells, List.all_cons, List.all_nil, Bool.and_true, plainN_map (f := Draw.cells) (n := n + 2) (fun _ => rfl)]
  simp [AV.plainN]
theorem plain_jobs {l : List Job} {c : Bool} : (AV.ro 12 (l.map Job.cells) c).plainN depth = true := plain_map fun j => j.plain 20
theorem State.plain (n : Nat) (s : State) : (AV.agg s.cells).plainN (n + 6) = true := by
  show s.cells.all (AV.plainN (n + 5)) = true
  simp only [State.cells, List.all_cons, List.all_nil, Bool.and_true, plainN_map (f := Fund.cells) (n := n + 4) (fun _ => rfl), plainN_map (f := Alloc.cells) (n := n + 4) (fun _ => rfl), plainN_map (f := Rate.cells) (n := n + 4) (fun _ => rfl), plainN_map (f := strC) (n := n + 4) (fun _ => rfl), plainN_map (f := Job.cells) (n := n + 4) (fun j => j.plain (n + 1))]
  simp [AV.plainN]
theorem plain_state {s : State} : (AV.agg s.cells).plainN depth = true := s.plain 18
theorem plain_job {j : Job} : (AV.agg j.cells).plainN depth = true := j.plain 20
theorem Tx.plain (n : Nat) (t : Tx) : (AV.agg t.cells).plainN (n + 6) = true := by
  show t.cells.all (AV.plainN (n + 5)) = true
  simp only [Tx.cells, List.all_cons, List.all_nil, Bool.and_true, plainN_map (f := intC) (n := n + 4) (fun _ => rfl), plainN_map (f := Leg.cells) (n := n + 4) (fun _ => rfl)]
  simp [AV.plainN]
theorem plain_tx {t : Tx} : (AV.agg t.cells).plainN depth = true := t.plain 18
theorem plain_cmd {x : Cmd} : (AV.agg x.cells).plainN depth = true := by
  show x.cells.all (AV.plainN 23) = true
  simp only [Cmd.cells, List.all_cons, List.all_nil, Bool.and_true, plainN_map (f := intC) (n := 22) (fun _ => rfl)]
  simp [AV.plainN]
theorem plain_cfg {c : Cfg} : (AV.agg c.cells).plainN depth = true := rfl

theorem ix_int {E : Nat} {xs : List (List AV)} {c : Bool} {k : IntKind} {n : Int} (h0 : 0 ≤ n) (h : n < xs.length) : ixV E (.ro E xs c) (.int k n) = some (.rp (xs.getD n.toNat [])) := by
  simp only [ixV]
  rw [if_pos ⟨trivial, h0, h⟩]

/-- A number of a list. -/
theorem ixI {l : List Int} {c : Bool} {k : IntKind} (n : Nat) (h : n < l.length) : ixV 1 (.ro 1 (l.map intC) c) (.int k (n : Int)) = some (.rp [.int .i64 (l.getD n 0)]) := by
  rw [ix_int (by omega) (by simpa using h)]
  simp [List.getD, intC, h]
theorem ixI0 {l : List Int} {c : Bool} {k : IntKind} (h : 0 < l.length) : ixV 1 (.ro 1 (l.map intC) c) (.int k 0) = some (.rp [.int .i64 (l.getD 0 0)]) := ixI 0 h
theorem ixI1 {l : List Int} {c : Bool} {k : IntKind} (h : 1 < l.length) : ixV 1 (.ro 1 (l.map intC) c) (.int k 1) = some (.rp [.int .i64 (l.getD 1 0)]) := ixI 1 h
theorem ixI2 {l : List Int} {c : Bool} {k : IntKind} (h : 2 < l.length) : ixV 1 (.ro 1 (l.map intC) c) (.int k 2) = some (.rp [.int .i64 (l.getD 2 0)]) := ixI 2 h
theorem ixI3 {l : List Int} {c : Bool} {k : IntKind} (h : 3 < l.length) : ixV 1 (.ro 1 (l.map intC) c) (.int k 3) = some (.rp [.int .i64 (l.getD 3 0)]) := ixI 3 h

/-- The heap has only grown. -/
structure Grew (H : Heap) (cx : Nat) (H' : Heap) (cx' : Nat) : Prop where
  old : ∀ q, q < cx → H' q = H q
  bd : Bd H' cx'
  le : cx ≤ cx'

theorem Grew.refl {H : Heap} {cx : Nat} (h : Bd H cx) : Grew H cx H cx := ⟨fun _ _ => rfl, h, Nat.le_refl _⟩
theorem Grew.trans {H H' H'' : Heap} {cx cx' cx'' : Nat} (h : Grew H cx H' cx') (g : Grew H' cx' H'' cx'') : Grew H cx H'' cx'' :=
  ⟨fun q hq => (g.old q (Nat.lt_of_lt_of_le hq h.le)).trans (h.old q hq), g.bd, Nat.le_trans h.le g.le⟩
theorem Grew.more {H H' : Heap} {cx cx' cx'' : Nat} (h : Grew H cx H' cx') (hle : cx' ≤ cx'') : Grew H cx H' cx'' := ⟨h.old, h.bd.le hle, Nat.le_trans h.le hle⟩
theorem Grew.less {H H' : Heap} {cx0 cx cx' : Nat} (h : Grew H cx H' cx') (hle : cx0 ≤ cx) : Grew H cx0 H' cx' := ⟨fun q hq => h.old q (by omega), h.bd, by have := h.le; omega⟩
theorem Grew.set {H H' : Heap} {cx cx' nm : Nat} {o : Option HO} (h : Grew H cx H' cx') (h1 : cx ≤ nm) (h2 : nm < cx') : Grew H cx (upd H' nm o) cx' :=
  ⟨fun q hq => by rw [upd_ne _ _ _ (by omega)]; exact h.old q hq, h.bd.upd (Nat.le_refl _) h2, h.le⟩

theorem pure_true {f : Nat} (h : (match mF pures codes 3000 200 f [] .leaf 0 with | some o => (match o.v with | .bool b => b | _ => false) | none => false) = true) : Pure f [] (.bool true) := by
  split at h
  · rename_i o ho
    split at h
    · rename_i b hb
      subst h
      have := mF_sim (pures := pures) (codes := codes) (m := 3000) 200 _ _ _ _ _ ho
      rw [get_leaf] at this
      exact .of_plain rfl ⟨3000 + 200, o.abs, this, hb⟩
    · cases h
  · cases h

end Go.Proofs.YtfhflogbffibiaaGreat
