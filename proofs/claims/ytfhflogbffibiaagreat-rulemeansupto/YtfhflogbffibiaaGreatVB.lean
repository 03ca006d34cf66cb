/-
  The operations, and what they come to: a function of the abstract state.
-/
import Derived.Test.YtfhflogbffibiaaGreatVA
namespace Go.Proofs.YtfhflogbffibiaaGreat
open Go
set_option linter.unusedSimpArgs false
set_option linter.unusedVariables false

inductive LA where
  | t (n : Nat)
  | k (a : AV)

def LA.ev (fr : Nat → AV) : LA → AV
  | .t n => fr n
  | .k a => a

inductive LOp where
  | mv (x : LA)
  | pick (c a b : LA)
  | alloc (zs : List AV)
  | box (x : LA)
  | build (zs : List AV) (parts : List (Nat × Nat × LA))
  | mks (E : Nat) (parts : List LA)
  | mkz (E : Nat) (zs : List AV) (len cap : LA)
  | ld (x : LA) (n : Nat) (ag : Bool)
  | st (x v : LA) (n : Nat)
  | nck (x : LA)
  | bin (op : BinOp) (x y : LA) (m : Nat)
  | un (op : UnOp) (x : LA)
  | conv (k : IntKind) (x : LA)
  | mkf (f : Nat) (caps : List LA)
  | slc (E : Nat) (x : LA) (lo hi mx : Option LA)
  | fa (x : LA) (o : Nat)
  | ix (E : Nat) (x i : LA)
  | ext (x : LA) (i : Nat)
  | len (x : LA) (st : Bool)
  | cap (x : LA)
  | mm (mx : Bool) (x : LA) (xs : List LA)
  | app (E bytes : Nat) (x y : LA)
  | appz (E bytes : Nat) (zs : List AV) (x n : LA)
  | isnil (x : LA)
  | six (x i : LA)
  | clr (zs : List AV) (x : LA)
  | call (f : Nat) (args : List LA)
  | pcall (f : Nat) (args : List LA)
  | kcall (f : Nat) (args : List LA)
  | callv (x : LA) (args : List LA)
  | bad

/-- The cells of a value that is stored. -/
def AV.cells : AV → Option (List AV)
  | .any | .tup _ => none
  | .agg cs => some cs
  | .raw v => if v.oneCell' then some [.raw v] else none
  | a => some [a]

def wrCells (cs : List AV) (o : Nat) (vs : List AV) : List AV := cs.take o ++ vs ++ cs.drop (o + vs.length)

def rdCells (cs : List AV) (o n : Nat) (ag : Bool) : AV := if ag then .agg ((cs.drop o).take n) else cs.getD o .any

/-- So many groups of E cells. -/
def chunk (E : Nat) : Nat → List AV → List (List AV)
  | 0, _ => []
  | k + 1, cs => cs.take E :: chunk E k (cs.drop E)

def intBin (op : BinOp) (k : IntKind) (a b : Int) : Option AV :=
  match op with
  | .add => some (.int k (k.wrap (a + b)))
  | .sub => some (.int k (k.wrap (a - b)))
  | .mul => some (.int k (k.wrap (a * b)))
  | .quo => if b = 0 then none else some (.int k (k.wrap (a.tdiv b)))
  | .rem => if b = 0 then none else some (.int k (a.tmod b))
  | .and => some (.int k (k.wrap (BitVec.ofInt k.bits a &&& BitVec.ofInt k.bits b).toNat))
  | .or => some (.int k (k.wrap (BitVec.ofInt k.bits a ||| BitVec.ofInt k.bits b).toNat))
  | .xor => some (.int k (k.wrap (BitVec.ofInt k.bits a ^^^ BitVec.ofInt k.bits b).toNat))
  | .andNot => some (.int k (k.wrap (BitVec.ofInt k.bits a &&& ~~~ BitVec.ofInt k.bits b).toNat))
  | .eql => some (.bool (a == b))
  | .neq => some (.bool (a != b))
  | .lss => some (.bool (a < b))
  | .leq => some (.bool (a ≤ b))
  | .gtr => some (.bool (a > b))
  | .geq => some (.bool (a ≥ b))
  | _ => none

/-- Whole numbers in two rows of cells: are they the same? -/
def eqInts : List AV → List AV → Option Bool
  | [], [] => some true
  | .int .i64 a :: cs, .int .i64 b :: ds => (eqInts cs ds).map (fun r => (a == b) && r)
  | _, _ => none

def binV (op : BinOp) (m : Nat) (x y : AV) : Option AV :=
  match x, y with
  | .int k a, .int k' b =>
    match op with
    | .shl => if b < 0 then none else some (.int k (k.wrap (a * 2 ^ (min b.toNat k.bits))))
    | .shr => if b < 0 then none else some (.int k (a.fdiv (2 ^ (min b.toNat k.bits))))
    | op => if k = k' then intBin op k a b else none
  | .bool a, .bool b =>
    match op with
    | .eql => if m = 100 then some (.bool (a == b)) else none
    | .neq => if m = 100 then some (.bool (!(a == b))) else none
    | _ => none
  | .str a, .str b =>
    match op with
    | .eql => some (.bool (a.toList == b.toList))
    | .neq => some (.bool (!(a.toList == b.toList)))
    | _ => none
  | .agg cs, .agg ds =>
    match op with
    | .eql => if cs.length = m ∧ 0 < m ∧ m < 100 then (eqInts cs ds).map .bool else none
    | .neq => if cs.length = m ∧ 0 < m ∧ m < 100 then (eqInts cs ds).map (fun r => .bool (!r)) else none
    | _ => none
  | .raw (.pointer none), .raw (.pointer none) => if op = .eql ∧ m = 101 then some (.bool true) else none
  | .np _ _, .raw (.pointer none) => if op = .eql ∧ m = 101 then some (.bool false) else none
  | .rp _, .raw (.pointer none) => if op = .eql ∧ m = 101 then some (.bool false) else none
  | _, _ => none

def unV (op : UnOp) (x : AV) : Option AV :=
  match op, x with
  | .neg, .int k n => some (.int k (k.wrap (0 - n)))
  | .not, .bool b => some (.bool (!b))
  | _, _ => none

def mmV (mx : Bool) : AV → AV → Option AV
  | .int k a, .int k' b => if k = k' then some (.int k (if mx then (if b > a then b else a) else (if b < a then b else a))) else none
  | _, _ => none

def mmL (mx : Bool) : AV → List AV → Option AV
  | a, [] => some a
  | a, b :: r => (mmV mx a b).bind fun c => mmL mx c r

/-- A bound of a slice expression. -/
def bndV (fr : Nat → AV) (x : Option LA) (dflt : Int) : Option Int :=
  match x with
  | none => some dflt
  | some x => match x.ev fr with
    | .int .i64 n => some n
    | _ => none

def sliceV (fr : Nat → AV) (H : Heap) (E : Nat) (x : AV) (lo hi mx : Option LA) : Option AV :=
  match x with
  | .ro E' xs clip =>
    match bndV fr lo 0, bndV fr hi xs.length, mx.map (fun m => bndV fr (some m) 0) with
    | some l, some h, none => if E' = E ∧ 0 ≤ l ∧ l ≤ h ∧ h ≤ xs.length then some (.ro E ((xs.take h.toNat).drop l.toNat) (clip && decide (h = xs.length))) else none
    | some l, some h, some (some m) => if E' = E ∧ 0 ≤ l ∧ l ≤ h ∧ h ≤ m ∧ m ≤ xs.length then some (.ro E ((xs.take h.toNat).drop l.toNat) (decide (h = m))) else none
    | _, _, _ => none
  | .ns nm E' o len cap =>
    match bndV fr lo 0, bndV fr hi len, bndV fr mx cap with
    | some l, some h, some m => if E' = E ∧ 0 ≤ l ∧ l ≤ h ∧ h ≤ m ∧ m ≤ cap then some (.ns nm E (if m = l then o else o + l.toNat * E) (h.toNat - l.toNat) (m.toNat - l.toNat)) else none
    | _, _, _ => none
  | .gs nm E' off len =>
    match H nm with
    | some (.gro _ xs) =>
      match bndV fr lo 0, bndV fr hi len, mx.map (fun m => bndV fr (some m) 0) with
      | some l, some h, none => if E' = E ∧ 0 ≤ l ∧ l ≤ h ∧ off + h.toNat ≤ xs.length then some (.gs nm E (off + l.toNat) (h.toNat - l.toNat)) else none
      | some l, some h, some (some m) => if E' = E ∧ 0 ≤ l ∧ l ≤ h ∧ h ≤ m ∧ 0 < m - l ∧ off + m.toNat ≤ xs.length then some (.ns nm E ((off + l.toNat) * E) (h.toNat - l.toNat) (m.toNat - l.toNat)) else none
      | _, _, _ => none
    | _ => none
  | _ => none

def ixV (E : Nat) (x i : AV) : Option AV :=
  match x, i with
  | .ro E' xs _, .int _ n => if E' = E ∧ 0 ≤ n ∧ n < xs.length then some (.rp (xs.getD n.toNat [])) else none
  | .ns nm E' o len _, .int _ n => if E' = E ∧ 0 ≤ n ∧ n < len then some (.np nm (o + n.toNat * E)) else none
  | .gs nm E' off len, .int _ n => if E' = E ∧ 0 ≤ n ∧ n < len then some (.np nm ((off + n.toNat) * E)) else none
  | _, _ => none

def lenV (st : Bool) (x : AV) : Option Int :=
  match st, x with
  | false, .ro _ xs _ => some xs.length
  | false, .ns _ _ _ len _ => some len
  | false, .gs _ _ _ len => some len
  | true, .str s => some s.size
  | _, _ => none

def capV : AV → Option Int
  | .ro _ xs true => some xs.length
  | .ns _ _ _ _ cap => some cap
  | _ => none

/-- Parts laid into zero cells. -/
def fillV (fr : Nat → AV) : List AV → List (Nat × Nat × LA) → Option (List AV)
  | cs, [] => some cs
  | cs, (o, n, x) :: r => ((x.ev fr).cells).bind fun vs => if vs.length = n ∧ o + n ≤ cs.length then fillV fr (wrCells cs o vs) r else none

def partsV (fr : Nat → AV) (E : Nat) : List LA → Option (List (List AV))
  | [] => some []
  | x :: r => ((x.ev fr).cells).bind fun vs => if vs.length = E then (partsV fr E r).map (vs :: ·) else none

/-- A named object's cells. -/
def HO.cells : HO → Option (List AV)
  | .blk cs => some cs
  | .gro _ xs => some xs.flatten
  | .dead => none

def cellsAt (H : Heap) (nm : Nat) : Option (List AV) := (H nm).bind HO.cells

/-- Cells of an object written. -/
def HO.wr (o : Nat) (vs : List AV) : HO → HO
  | .blk cs => .blk (wrCells cs o vs)
  | .gro E xs => .gro E (chunk E xs.length (wrCells xs.flatten o vs))
  | .dead => .dead

/-- The elements of a slice. -/
def elsV (H : Heap) (E : Nat) : AV → Option (List (List AV))
  | .ro E' ys _ => if E' = E then some ys else none
  | .ns nm E' o len _ => match cellsAt H nm with
    | some cs => if E' = E ∧ o + len * E ≤ cs.length then some (chunk E len (cs.drop o)) else none
    | none => none
  | .gs nm E' off len => match H nm with
    | some (.gro E'' xs) => if E' = E ∧ E'' = E ∧ off + len ≤ xs.length then some ((xs.drop off).take len) else none
    | _ => none
  | _ => none

/-- What a slot holds behind an operation that was passed over. -/
def undefAV : AV := .raw undef

def ifNew (H : Heap) (nm : Nat) (o : HO) (v : AV) : Option (AV × List (Nat × HO)) :=
  match H nm with
  | none => some (v, [(nm, o)])
  | some _ => none

def ldV (H : Heap) (x : AV) (n : Nat) (ag : Bool) : Option AV :=
  match x with
  | .rp cs => if n ≤ cs.length ∧ (ag = false → n = 1) then some (rdCells cs 0 n ag) else none
  | .np nm o => match cellsAt H nm with
    | some cs => if o + n ≤ cs.length ∧ (ag = false → n = 1) then some (rdCells cs o n ag) else none
    | none => none
  | _ => none

/-- Nothing is appended. -/
def app0 (E : Nat) (x : AV) : Option (AV × List (Nat × HO)) :=
  match x with
  | .ro E' xs true => if E' = E then some (.ro E xs true, []) else none
  | .ns nm0 E' o len cap => if len ≤ cap then some (.ns nm0 E' o len cap, []) else none
  | .gs nm0 E' off len => some (.gs nm0 E' off len, [])
  | _ => none

/-- Elements are appended. -/
def appC (H : Heap) (nm E bytes : Nat) (x : AV) (ys : List (List AV)) : Option (AV × List (Nat × HO)) :=
  match x with
  | .ro E' xs true => if E' = E ∧ (xs.length + ys.length) * bytes ≤ 2 ^ 40 then ifNew H nm (.gro E (xs ++ ys)) (.gs nm E 0 (xs.length + ys.length)) else none
  | .ns nm0 E' o len cap => match H nm0 with
    | some ob => match ob.cells with
      | some cs => if E' = E ∧ o + cap * E ≤ cs.length ∧ len + ys.length ≤ cap then some (.ns nm0 E o (len + ys.length) cap, [(nm0, ob.wr (o + len * E) ys.flatten)])
        else if E' = E ∧ cap < len + ys.length ∧ o + len * E ≤ cs.length ∧ (len + ys.length) * bytes ≤ 2 ^ 40 then ifNew H nm (.gro E (chunk E len (cs.drop o) ++ ys)) (.gs nm E 0 (len + ys.length)) else none
      | none => none
    | none => none
  | .gs nm0 E' off len => match H nm0 with
    | some (.gro E'' xs) =>
      if E' = E ∧ E'' = E ∧ off + len + ys.length ≤ xs.length then some (.gs nm0 E off (len + ys.length), [(nm0, .gro E (xs.take (off + len) ++ ys ++ xs.drop (off + len + ys.length)))])
      else if E' = E ∧ E'' = E ∧ off = 0 ∧ len = xs.length ∧ (xs.length + ys.length) * bytes ≤ 2 ^ 40 then
        match H nm with
        | none => some (.gs nm E 0 (len + ys.length), [(nm, .gro E (xs ++ ys)), (nm0, .dead)])
        | some _ => none
      else none
    | _ => none
  | _ => none

def appV (H : Heap) (nm E bytes : Nat) (x : AV) (yy : Option (List (List AV))) : Option (AV × List (Nat × HO)) :=
  match yy with
  | none => none
  | some [] => app0 E x
  | some (y :: r) => appC H nm E bytes x (y :: r)

/-- AN OPERATION'S OUTCOME: its value and the objects that it writes; nm: the name that it may give. -/
def LOp.run (nm : Nat) (fr : Nat → AV) (H : Heap) : LOp → Option (AV × List (Nat × HO))
  | .mv x => some (x.ev fr, [])
  | .pick c a b => match c.ev fr with
    | .bool c => some (if c then a.ev fr else b.ev fr, [])
    | _ => none
  | .alloc zs => ifNew H nm (.blk zs) (.np nm 0)
  | .box x => ((x.ev fr).cells).bind fun cs => ifNew H nm (.blk cs) (.np nm 0)
  | .build zs ps => (fillV fr zs ps).map fun cs => (.agg cs, [])
  | .mks E ps => (partsV fr E ps).map fun xs => (.ro E xs true, [])
  | .mkz E zs l0 c0 => match l0.ev fr, c0.ev fr with
    | .int _ l, .int _ c => if 0 < l ∧ l ≤ c ∧ zs.length = E ∧ c * E ≤ 2 ^ 24 then ifNew H nm (.blk (List.replicate c.toNat zs).flatten) (.ns nm E 0 l.toNat c.toNat) else if 0 = l ∧ c = 0 then some (.ro E [] true, []) else none
    | _, _ => none
  | .ld x n ag => (ldV H (x.ev fr) n ag).map (·, [])
  | .st x v n => match x.ev fr, (v.ev fr).cells with
    | .np nm o, some vs => match H nm with
      | some ob => match ob.cells with
        | some cs => if vs.length = n ∧ o + n ≤ cs.length then some (.any, [(nm, ob.wr o vs)]) else none
        | none => none
      | none => none
    | _, _ => none
  | .nck x => match x.ev fr with
    | .rp cs => some (.rp cs, [])
    | .np nm o => some (.np nm o, [])
    | .fn f cs => some (.fn f cs, [])
    | _ => none
  | .bin op x y m => (binV op m (x.ev fr) (y.ev fr)).map (·, [])
  | .un op x => (unV op (x.ev fr)).map (·, [])
  | .conv k x => match x.ev fr with
    | .int _ n => some (.int k (k.wrap n), [])
    | _ => none
  | .mkf f caps => some (.fn f (caps.map (·.ev fr)), [])
  | .slc E x lo hi mx => (sliceV fr H E (x.ev fr) lo hi mx).map (·, [])
  | .fa x o => match x.ev fr with
    | .rp cs => some (.rp (cs.drop o), [])
    | .np nm p => some (.np nm (p + o), [])
    | _ => none
  | .ix E x i => (ixV E (x.ev fr) (i.ev fr)).map (·, [])
  | .ext x i => match x.ev fr with
    | .tup vs => (vs[i]?).map (·, [])
    | _ => none
  | .len x ks => (lenV ks (x.ev fr)).map fun n => (.int .i64 n, [])
  | .cap x => (capV (x.ev fr)).map fun n => (.int .i64 n, [])
  | .mm mx x xs => (mmL mx (x.ev fr) (xs.map (·.ev fr))).map (·, [])
  | .app E bytes x y => appV H nm E bytes (x.ev fr) (elsV H E (y.ev fr))
  | .appz E bytes zs x n => match n.ev fr with
    | .int .i64 n => if zs.length = E ∧ 0 ≤ n ∧ n * bytes ≤ 2 ^ 40 then appV H nm E bytes (x.ev fr) (some (List.replicate n.toNat zs)) else none
    | _ => none
  | .isnil x => match x.ev fr with
    | .ro _ (_ :: _) _ => some (.bool false, [])
    | .ns _ _ _ _ _ => some (.bool false, [])
    | .gs _ _ _ _ => some (.bool false, [])
    | _ => none
  | .six x i => match x.ev fr, i.ev fr with
    | .str s, .int _ n => if 0 ≤ n ∧ n < s.size then some (.int .u8 (s.data.getD n.toNat 0).toNat, []) else none
    | _, _ => none
  | .clr zs x => match x.ev fr with
    | .ro _ [] _ => some (.any, [])
    | .ns nm E o ln _ => match H nm with
      | some ob => match ob.cells with
        | some cs => if zs.length = E ∧ o + ln * E ≤ cs.length then some (.any, [(nm, ob.wr o (List.replicate ln zs).flatten)]) else none
        | none => none
      | none => none
    | .gs nm E off ln => match H nm with
      | some (.gro E' xs) => if zs.length = E ∧ E' = E ∧ off + ln ≤ xs.length then some (.any, [(nm, .gro E (xs.take off ++ List.replicate ln zs ++ xs.drop (off + ln)))]) else none
      | _ => none
    | _ => none
  | .call _ _ => none
  | .pcall _ _ => none
  | .kcall _ _ => none
  | .callv _ _ => none
  | .bad => none

structure LOpr where
  d : Option Nat
  op : LOp
  g : Option (Nat × Bool)

inductive LCode where
  | skip
  | reg (ops : List LOpr)
  | dreg (dyn : List (Nat × Nat)) (ops : List LOpr)
  | seq (a b : LCode)
  | cond (c : LA) (a b : LCode)
  | block (id : Nat) (c : LCode)
  | loop (c : LCode)
  | exit (id : Nat)
  | ret
  | scope (c : LCode)
  | label (l : Nat)
  | goto (l : Nat)

inductive LRes where
  | tmp (t : Nat)
  | cell (t m : Nat) (ag : Bool)

end Go.Proofs.YtfhflogbffibiaaGreat
