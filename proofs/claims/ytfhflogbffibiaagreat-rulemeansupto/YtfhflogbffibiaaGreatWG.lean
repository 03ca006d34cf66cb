/-
  Walks: the transaction of a command.
-/
import Derived.Test.YtfhflogbffibiaaGreatWF
namespace Go.Proofs.YtfhflogbffibiaaGreat
open Go
set_option linter.unusedVariables false
set_option linter.unusedSimpArgs false

def zeroTx : Tx := ⟨0, 0, 0, ⟨#[]⟩, ⟨#[]⟩, ⟨[], true⟩, ⟨[], true⟩⟩
def mkTx (now : Int) (x : Cmd) (l : List Int) (b : Bool) : Tx := ⟨0, now, x.kind, x.key, x.name, ⟨l, b⟩, ⟨[], true⟩⟩

def txF (c : Cfg) (s : State) (now : Int) (x : Cmd) : Option (List Int) × Int :=
  if argsN x.kind ≠ x.args.l.length then (none, 1)
  else if x.kind = 7 then
    if (priceR c s now x.args.l).2 ≠ 0 then (none, (priceR c s now x.args.l).2) else (some (x.args.l ++ [(priceR c s now x.args.l).1]), 0)
  else if x.kind = 12 then
    if (usedF s.jobs.l now (x.args.l.getD 0 0)).2 ≠ 0 then (none, (usedF s.jobs.l now (x.args.l.getD 0 0)).2)
    else (some (x.args.l ++ [(usedF s.jobs.l now (x.args.l.getD 0 0)).1]), 0)
  else (some x.args.l, 0)

def txT (now : Int) (x : Cmd) (r : Option (List Int)) (b : Bool) : Tx := match r with
  | none => zeroTx
  | some l => mkTx now x l b

/-- slices.Clip, of numbers that grew -/
theorem fn59 {nm n cx : Nat} {xs : List (List AV)} {H : Heap} {K : Out → Prop} (h : H nm = some (.gro 1 xs)) (hn : n = xs.length) (h0 : 0 < n) (hK : K ⟨.ns nm 1 0 n n, H, cx + 8, false⟩) : Fn 59 [.gs nm 1 0 n] H cx K := by
  refine fn_run g59 rfl (Nat.le_of_ble_eq_true rfl) ?_
  dsimp only [k59, c59]
  simp only [S0, S1, S2, S3, S4, S5, isnilV, Nat.reduceLT, updH, LA.ev, initA, evs, convV, faV, nckV, extV, stV, ldV, cellsAt, HO.cells, HO.wr, rdCells, wrCells, AV.cells, fillV, partsV, binV, intBin, unV, mmL, mmV, lenV, capV, Nat.reduceAdd, Nat.reduceEqDiff, Nat.reduceLeDiff, Nat.reduceMul, Nat.reduceSub, Nat.le_refl, reduceCtorEq, reduceIte, resV, retV, Ex.done, noH, implies_true, imp_self, forall_const, Nat.not_lt_zero, Int.reduceLT, Int.reduceLE]
  rw [slc_clip_gs h hn h0 (by simp only [S0, S1, S2, S3, S4, S5, isnilV, Nat.reduceLT, updH, LA.ev, initA, evs, convV, faV, nckV, extV, stV, ldV, cellsAt, HO.cells, HO.wr, rdCells, wrCells, AV.cells, fillV, partsV, binV, intBin, unV, mmL, mmV, lenV, capV, Nat.reduceAdd, Nat.reduceEqDiff, Nat.reduceLeDiff, Nat.reduceMul, Nat.reduceSub, Nat.le_refl, reduceCtorEq, reduceIte, resV, retV, Ex.done, noH, implies_true, imp_self, forall_const, Nat.not_lt_zero, Int.reduceLT, Int.reduceLE]) (by simp only [S0, S1, S2, S3, S4, S5, isnilV, Nat.reduceLT, updH, LA.ev, initA, evs, convV, faV, nckV, extV, stV, ldV, cellsAt, HO.cells, HO.wr, rdCells, wrCells, AV.cells, fillV, partsV, binV, intBin, unV, mmL, mmV, lenV, capV, Nat.reduceAdd, Nat.reduceEqDiff, Nat.reduceLeDiff, Nat.reduceMul, Nat.reduceSub, Nat.le_refl, reduceCtorEq, reduceIte, resV, retV, Ex.done, noH, implies_true, imp_self, forall_const, Nat.not_lt_zero, Int.reduceLT, Int.reduceLE])]
  simp only [S0, S1, S2, S3, S4, S5, isnilV, Nat.reduceLT, updH, LA.ev, initA, evs, convV, faV, nckV, extV, stV, ldV, cellsAt, HO.cells, HO.wr, rdCells, wrCells, AV.cells, fillV, partsV, binV, intBin, unV, mmL, mmV, lenV, capV, Nat.reduceAdd, Nat.reduceEqDiff, Nat.reduceLeDiff, Nat.reduceMul, Nat.reduceSub, Nat.le_refl, reduceCtorEq, reduceIte, resV, retV, Ex.done, noH, implies_true, imp_self, forall_const, Nat.not_lt_zero, Int.reduceLT, Int.reduceLE]
  exact hK

theorem txPlain {t : Tx} {e : Int} : (AV.tup [.agg t.cells, .int .i64 e]).plainN depth = true := by simp only [AV.plainN, depth]; exact Bool.and_eq_true_iff.2 ⟨Tx.plain 17 t, rfl⟩

/-- A transaction whose numbers still bear a name. -/
theorem freeze_tx {H : Heap} {nm n : Nat} {l : List Int} {now e : Int} {x : Cmd} (h : H nm = some (.gro 1 (l.map intC))) (hn : n = l.length) :
    freeze H depth (.tup [.agg [.int .i64 0, .int .i64 now, .int .i64 x.kind, .str x.key, .str x.name, .ns nm 1 0 n n, .ro 2 [] true], .int .i64 e]) = some (.tup [.agg (mkTx now x l true).cells, .int .i64 e]) := by
  refine freeze_tup (n := 23) (optL_cons (freeze_agg (n := 22) (optL_cons rfl (optL_cons rfl (optL_cons rfl (optL_cons rfl (optL_cons rfl (optL_cons (freeze_ns 20 h (fun x hx => ?_) (by simpa using hn) (Nat.le_refl _) fun x hx => ?_) (optL_cons rfl optL_nil))))))) rfl) (optL_cons rfl optL_nil)) rfl |>.trans ?_
  · obtain ⟨a, _, rfl⟩ := List.mem_map.1 hx; rfl
  · obtain ⟨a, _, rfl⟩ := List.mem_map.1 hx; rfl
  · simp [mkTx, Tx.cells]

/-- rule.Tx -/
theorem pure21 (c : Cfg) (s : State) (now : Int) (x : Cmd) (h1 : s.rates.l.length ≤ 1073741824) (h2 : s.jobs.l.length ≤ 1073741824) (h3 : x.args.l.length ≤ 1073741824) :
    Pure 21 [.agg c.cells, .agg s.cells, .int .i64 now, .agg x.cells] (.tup [.agg (txT now x (txF c s now x).1 true).cells, .int .i64 (txF c s now x).2]) := by
  refine fn_run g21 rfl (Nat.le_of_ble_eq_true rfl) ?_
  dsimp only [k21, c21]
  simp only [S0, S1, S2, S3, S4, S5, isnilV, Nat.reduceLT, updH, LA.ev, initA, evs, convV, faV, nckV, extV, stV, ldV, cellsAt, HO.cells, HO.wr, rdCells, wrCells, AV.cells, fillV, partsV, binV, intBin, unV, mmL, mmV, lenV, capV, Nat.reduceAdd, Nat.reduceEqDiff, Nat.reduceLeDiff, Nat.reduceMul, Nat.reduceSub, Nat.le_refl, reduceCtorEq, reduceIte, resV, retV, Ex.done, noH, implies_true, imp_self, forall_const, Nat.not_lt_zero, Int.reduceLT, Int.reduceLE, Cfg.cells, State.cells, Cmd.cells]
  rw [run_pure_pc (pure60 x.args.l x.args.c h3) rfl (by simp only [List.all_cons, plain_ints]; rfl)]
  simp only [S0, S1, S2, S3, S4, S5, isnilV, Nat.reduceLT, updH, LA.ev, initA, evs, convV, faV, nckV, extV, stV, ldV, cellsAt, HO.cells, HO.wr, rdCells, wrCells, AV.cells, fillV, partsV, binV, intBin, unV, mmL, mmV, lenV, capV, Nat.reduceAdd, Nat.reduceEqDiff, Nat.reduceLeDiff, Nat.reduceMul, Nat.reduceSub, Nat.le_refl, reduceCtorEq, reduceIte, resV, retV, Ex.done, noH, implies_true, imp_self, forall_const, Nat.not_lt_zero, Int.reduceLT, Int.reduceLE]
  rw [run_pure_pc (pure59 x.args.l x.args.l.isEmpty) rfl (by simp only [List.all_cons, plain_ints]; rfl)]
  simp only [S0, S1, S2, S3, S4, S5, isnilV, Nat.reduceLT, updH, LA.ev, initA, evs, convV, faV, nckV, extV, stV, ldV, cellsAt, HO.cells, HO.wr, rdCells, wrCells, AV.cells, fillV, partsV, binV, intBin, unV, mmL, mmV, lenV, capV, Nat.reduceAdd, Nat.reduceEqDiff, Nat.reduceLeDiff, Nat.reduceMul, Nat.reduceSub, Nat.le_refl, reduceCtorEq, reduceIte, resV, retV, Ex.done, noH, implies_true, imp_self, forall_const, Nat.not_lt_zero, Int.reduceLT, Int.reduceLE]
  rw [run_pure_kc (pure61 x.kind) rfl rfl]
  simp only [S0, S1, S2, S3, S4, S5, isnilV, Nat.reduceLT, updH, LA.ev, initA, evs, convV, faV, nckV, extV, stV, ldV, cellsAt, HO.cells, HO.wr, rdCells, wrCells, AV.cells, fillV, partsV, binV, intBin, unV, mmL, mmV, lenV, capV, Nat.reduceAdd, Nat.reduceEqDiff, Nat.reduceLeDiff, Nat.reduceMul, Nat.reduceSub, Nat.le_refl, reduceCtorEq, reduceIte, resV, retV, Ex.done, noH, implies_true, imp_self, forall_const, Nat.not_lt_zero, Int.reduceLT, Int.reduceLE]
  refine run_sel (fun h => ?_) (fun h => ?_)
  · simp only [S0, S1, S2, S3, S4, S5, isnilV, Nat.reduceLT, updH, LA.ev, initA, evs, convV, faV, nckV, extV, stV, ldV, cellsAt, HO.cells, HO.wr, rdCells, wrCells, AV.cells, fillV, partsV, binV, intBin, unV, mmL, mmV, lenV, capV, Nat.reduceAdd, Nat.reduceEqDiff, Nat.reduceLeDiff, Nat.reduceMul, Nat.reduceSub, Nat.le_refl, reduceCtorEq, reduceIte, resV, retV, Ex.done, noH, implies_true, imp_self, forall_const, Nat.not_lt_zero, Int.reduceLT, Int.reduceLE, h]
    have : argsN x.kind ≠ x.args.l.length := by simpa using h
    simp only [txF, if_pos this]
    exact ⟨freeze_plain (txPlain (t := zeroTx)), txPlain (t := zeroTx)⟩
  have ha : ¬ argsN x.kind ≠ x.args.l.length := by simpa using h
  simp only [txF, if_neg ha]
  simp only [S0, S1, S2, S3, S4, S5, isnilV, Nat.reduceLT, updH, LA.ev, initA, evs, convV, faV, nckV, extV, stV, ldV, cellsAt, HO.cells, HO.wr, rdCells, wrCells, AV.cells, fillV, partsV, binV, intBin, unV, mmL, mmV, lenV, capV, Nat.reduceAdd, Nat.reduceEqDiff, Nat.reduceLeDiff, Nat.reduceMul, Nat.reduceSub, Nat.le_refl, reduceCtorEq, reduceIte, resV, retV, Ex.done, noH, implies_true, imp_self, forall_const, Nat.not_lt_zero, Int.reduceLT, Int.reduceLE, h]
  refine run_sel (fun h7 => ?_) (fun h7 => ?_)
  · have k7 : x.kind = 7 := by simpa using h7
    have l5 : 5 ≤ x.args.l.length := by
      rw [k7] at ha
      have : argsN 7 = 5 := rfl
      omega
    simp only [if_pos k7]
    simp only [S0, S1, S2, S3, S4, S5, isnilV, Nat.reduceLT, updH, LA.ev, initA, evs, convV, faV, nckV, extV, stV, ldV, cellsAt, HO.cells, HO.wr, rdCells, wrCells, AV.cells, fillV, partsV, binV, intBin, unV, mmL, mmV, lenV, capV, Nat.reduceAdd, Nat.reduceEqDiff, Nat.reduceLeDiff, Nat.reduceMul, Nat.reduceSub, Nat.le_refl, reduceCtorEq, reduceIte, resV, retV, Ex.done, noH, implies_true, imp_self, forall_const, Nat.not_lt_zero, Int.reduceLT, Int.reduceLE, h7]
    have c62 := pure62 c s now x.args.l x.args.c l5 h1
    have p62 : [AV.agg c.cells, .agg s.cells, .int .i64 now, .ro 1 (x.args.l.map intC) x.args.c].all (AV.plainN depth) = true := by simp only [List.all_cons, plain_cfg, plain_state, plain_ints]; rfl
    simp only [Cfg.cells, State.cells] at c62 p62
    rw [run_pure c62 rfl p62]
    simp only [S0, S1, S2, S3, S4, S5, isnilV, Nat.reduceLT, updH, LA.ev, initA, evs, convV, faV, nckV, extV, stV, ldV, cellsAt, HO.cells, HO.wr, rdCells, wrCells, AV.cells, fillV, partsV, binV, intBin, unV, mmL, mmV, lenV, capV, Nat.reduceAdd, Nat.reduceEqDiff, Nat.reduceLeDiff, Nat.reduceMul, Nat.reduceSub, Nat.le_refl, reduceCtorEq, reduceIte, resV, retV, Ex.done, noH, implies_true, imp_self, forall_const, Nat.not_lt_zero, Int.reduceLT, Int.reduceLE]
    refine run_sel (fun he => ?_) (fun he => ?_)
    · simp only [S0, S1, S2, S3, S4, S5, isnilV, Nat.reduceLT, updH, LA.ev, initA, evs, convV, faV, nckV, extV, stV, ldV, cellsAt, HO.cells, HO.wr, rdCells, wrCells, AV.cells, fillV, partsV, binV, intBin, unV, mmL, mmV, lenV, capV, Nat.reduceAdd, Nat.reduceEqDiff, Nat.reduceLeDiff, Nat.reduceMul, Nat.reduceSub, Nat.le_refl, reduceCtorEq, reduceIte, resV, retV, Ex.done, noH, implies_true, imp_self, forall_const, Nat.not_lt_zero, Int.reduceLT, Int.reduceLE, he]
      rw [if_pos (by simpa using he)]
      exact ⟨freeze_plain (txPlain (t := zeroTx)), txPlain (t := zeroTx)⟩
    · simp only [S0, S1, S2, S3, S4, S5, isnilV, Nat.reduceLT, updH, LA.ev, initA, evs, convV, faV, nckV, extV, stV, ldV, cellsAt, HO.cells, HO.wr, rdCells, wrCells, AV.cells, fillV, partsV, binV, intBin, unV, mmL, mmV, lenV, capV, Nat.reduceAdd, Nat.reduceEqDiff, Nat.reduceLeDiff, Nat.reduceMul, Nat.reduceSub, Nat.le_refl, reduceCtorEq, reduceIte, resV, retV, Ex.done, noH, implies_true, imp_self, forall_const, Nat.not_lt_zero, Int.reduceLT, Int.reduceLE, he]
      rw [if_neg (by simpa using he)]
      rw [app_new (by simp) rfl (by simp; omega)]
      simp only [S0, S1, S2, S3, S4, S5, isnilV, Nat.reduceLT, updH, LA.ev, initA, evs, convV, faV, nckV, extV, stV, ldV, cellsAt, HO.cells, HO.wr, rdCells, wrCells, AV.cells, fillV, partsV, binV, intBin, unV, mmL, mmV, lenV, capV, Nat.reduceAdd, Nat.reduceEqDiff, Nat.reduceLeDiff, Nat.reduceMul, Nat.reduceSub, Nat.le_refl, reduceCtorEq, reduceIte, resV, retV, Ex.done, noH, implies_true, imp_self, forall_const, Nat.not_lt_zero, Int.reduceLT, Int.reduceLE]
      refine run_call ((WCall_fn (.inr rfl)).2 (fn59 (xs := x.args.l.map intC ++ [intC (priceR c s now x.args.l).1]) (by simp only [S0, S1, S2, S3, S4, S5, isnilV, Nat.reduceLT, updH, LA.ev, initA, evs, convV, faV, nckV, extV, stV, ldV, cellsAt, HO.cells, HO.wr, rdCells, wrCells, AV.cells, fillV, partsV, binV, intBin, unV, mmL, mmV, lenV, capV, Nat.reduceAdd, Nat.reduceEqDiff, Nat.reduceLeDiff, Nat.reduceMul, Nat.reduceSub, Nat.le_refl, reduceCtorEq, reduceIte, resV, retV, Ex.done, noH, implies_true, imp_self, forall_const, Nat.not_lt_zero, Int.reduceLT, Int.reduceLE]; rfl) (by simp) (by simp) ?_))
      simp only [S0, S1, S2, S3, S4, S5, isnilV, Nat.reduceLT, updH, LA.ev, initA, evs, convV, faV, nckV, extV, stV, ldV, cellsAt, HO.cells, HO.wr, rdCells, wrCells, AV.cells, fillV, partsV, binV, intBin, unV, mmL, mmV, lenV, capV, Nat.reduceAdd, Nat.reduceEqDiff, Nat.reduceLeDiff, Nat.reduceMul, Nat.reduceSub, Nat.le_refl, reduceCtorEq, reduceIte, resV, retV, Ex.done, noH, implies_true, imp_self, forall_const, Nat.not_lt_zero, Int.reduceLT, Int.reduceLE]
      exact ⟨freeze_tx (l := x.args.l ++ [(priceR c s now x.args.l).1]) (by simp only [S0, S1, S2, S3, S4, S5, isnilV, Nat.reduceLT, updH, LA.ev, initA, evs, convV, faV, nckV, extV, stV, ldV, cellsAt, HO.cells, HO.wr, rdCells, wrCells, AV.cells, fillV, partsV, binV, intBin, unV, mmL, mmV, lenV, capV, Nat.reduceAdd, Nat.reduceEqDiff, Nat.reduceLeDiff, Nat.reduceMul, Nat.reduceSub, Nat.le_refl, reduceCtorEq, reduceIte, resV, retV, Ex.done, noH, implies_true, imp_self, forall_const, Nat.not_lt_zero, Int.reduceLT, Int.reduceLE]; simp [intC]) (by simp), txPlain (t := mkTx now x _ true)⟩
  · simp only [if_neg (show ¬ x.kind = 7 by simpa using h7)]
    simp only [S0, S1, S2, S3, S4, S5, isnilV, Nat.reduceLT, updH, LA.ev, initA, evs, convV, faV, nckV, extV, stV, ldV, cellsAt, HO.cells, HO.wr, rdCells, wrCells, AV.cells, fillV, partsV, binV, intBin, unV, mmL, mmV, lenV, capV, Nat.reduceAdd, Nat.reduceEqDiff, Nat.reduceLeDiff, Nat.reduceMul, Nat.reduceSub, Nat.le_refl, reduceCtorEq, reduceIte, resV, retV, Ex.done, noH, implies_true, imp_self, forall_const, Nat.not_lt_zero, Int.reduceLT, Int.reduceLE, h7]
    refine run_sel (fun h12 => ?_) (fun h12 => ?_)
    · have k12 : x.kind = 12 := by simpa using h12
      have l1 : 1 ≤ x.args.l.length := by
        rw [k12] at ha
        have : argsN 12 = 1 := rfl
        omega
      simp only [if_pos k12]
      have i0 := ixI0 (l := x.args.l) (c := x.args.c) (k := .i64) (by omega)
      simp only [S0, S1, S2, S3, S4, S5, isnilV, Nat.reduceLT, updH, LA.ev, initA, evs, convV, faV, nckV, extV, stV, ldV, cellsAt, HO.cells, HO.wr, rdCells, wrCells, AV.cells, fillV, partsV, binV, intBin, unV, mmL, mmV, lenV, capV, Nat.reduceAdd, Nat.reduceEqDiff, Nat.reduceLeDiff, Nat.reduceMul, Nat.reduceSub, Nat.le_refl, reduceCtorEq, reduceIte, resV, retV, Ex.done, noH, implies_true, imp_self, forall_const, Nat.not_lt_zero, Int.reduceLT, Int.reduceLE, h12, i0]
      have c63 := pure63 s now (x.args.l.getD 0 0) h2
      have p63 : [AV.agg s.cells, .int .i64 now, .int .i64 (x.args.l.getD 0 0)].all (AV.plainN depth) = true := by simp only [List.all_cons, plain_state]; rfl
      simp only [State.cells] at c63 p63
      rw [run_pure c63 rfl p63]
      simp only [S0, S1, S2, S3, S4, S5, isnilV, Nat.reduceLT, updH, LA.ev, initA, evs, convV, faV, nckV, extV, stV, ldV, cellsAt, HO.cells, HO.wr, rdCells, wrCells, AV.cells, fillV, partsV, binV, intBin, unV, mmL, mmV, lenV, capV, Nat.reduceAdd, Nat.reduceEqDiff, Nat.reduceLeDiff, Nat.reduceMul, Nat.reduceSub, Nat.le_refl, reduceCtorEq, reduceIte, resV, retV, Ex.done, noH, implies_true, imp_self, forall_const, Nat.not_lt_zero, Int.reduceLT, Int.reduceLE]
      refine run_sel (fun he => ?_) (fun he => ?_)
      · simp only [S0, S1, S2, S3, S4, S5, isnilV, Nat.reduceLT, updH, LA.ev, initA, evs, convV, faV, nckV, extV, stV, ldV, cellsAt, HO.cells, HO.wr, rdCells, wrCells, AV.cells, fillV, partsV, binV, intBin, unV, mmL, mmV, lenV, capV, Nat.reduceAdd, Nat.reduceEqDiff, Nat.reduceLeDiff, Nat.reduceMul, Nat.reduceSub, Nat.le_refl, reduceCtorEq, reduceIte, resV, retV, Ex.done, noH, implies_true, imp_self, forall_const, Nat.not_lt_zero, Int.reduceLT, Int.reduceLE, he]
        rw [if_pos (by simpa using he)]
        exact ⟨freeze_plain (txPlain (t := zeroTx)), txPlain (t := zeroTx)⟩
      · simp only [S0, S1, S2, S3, S4, S5, isnilV, Nat.reduceLT, updH, LA.ev, initA, evs, convV, faV, nckV, extV, stV, ldV, cellsAt, HO.cells, HO.wr, rdCells, wrCells, AV.cells, fillV, partsV, binV, intBin, unV, mmL, mmV, lenV, capV, Nat.reduceAdd, Nat.reduceEqDiff, Nat.reduceLeDiff, Nat.reduceMul, Nat.reduceSub, Nat.le_refl, reduceCtorEq, reduceIte, resV, retV, Ex.done, noH, implies_true, imp_self, forall_const, Nat.not_lt_zero, Int.reduceLT, Int.reduceLE, he]
        rw [if_neg (by simpa using he)]
        rw [app_new (by simp) rfl (by simp; omega)]
        simp only [S0, S1, S2, S3, S4, S5, isnilV, Nat.reduceLT, updH, LA.ev, initA, evs, convV, faV, nckV, extV, stV, ldV, cellsAt, HO.cells, HO.wr, rdCells, wrCells, AV.cells, fillV, partsV, binV, intBin, unV, mmL, mmV, lenV, capV, Nat.reduceAdd, Nat.reduceEqDiff, Nat.reduceLeDiff, Nat.reduceMul, Nat.reduceSub, Nat.le_refl, reduceCtorEq, reduceIte, resV, retV, Ex.done, noH, implies_true, imp_self, forall_const, Nat.not_lt_zero, Int.reduceLT, Int.reduceLE]
        refine run_call ((WCall_fn (.inr rfl)).2 (fn59 (xs := x.args.l.map intC ++ [intC (usedF s.jobs.l now (x.args.l.getD 0 0)).1]) (by simp only [S0, S1, S2, S3, S4, S5, isnilV, Nat.reduceLT, updH, LA.ev, initA, evs, convV, faV, nckV, extV, stV, ldV, cellsAt, HO.cells, HO.wr, rdCells, wrCells, AV.cells, fillV, partsV, binV, intBin, unV, mmL, mmV, lenV, capV, Nat.reduceAdd, Nat.reduceEqDiff, Nat.reduceLeDiff, Nat.reduceMul, Nat.reduceSub, Nat.le_refl, reduceCtorEq, reduceIte, resV, retV, Ex.done, noH, implies_true, imp_self, forall_const, Nat.not_lt_zero, Int.reduceLT, Int.reduceLE]; rfl) (by simp) (by simp) ?_))
        simp only [S0, S1, S2, S3, S4, S5, isnilV, Nat.reduceLT, updH, LA.ev, initA, evs, convV, faV, nckV, extV, stV, ldV, cellsAt, HO.cells, HO.wr, rdCells, wrCells, AV.cells, fillV, partsV, binV, intBin, unV, mmL, mmV, lenV, capV, Nat.reduceAdd, Nat.reduceEqDiff, Nat.reduceLeDiff, Nat.reduceMul, Nat.reduceSub, Nat.le_refl, reduceCtorEq, reduceIte, resV, retV, Ex.done, noH, implies_true, imp_self, forall_const, Nat.not_lt_zero, Int.reduceLT, Int.reduceLE]
        exact ⟨freeze_tx (l := x.args.l ++ [(usedF s.jobs.l now (x.args.l.getD 0 0)).1]) (by simp only [S0, S1, S2, S3, S4, S5, isnilV, Nat.reduceLT, updH, LA.ev, initA, evs, convV, faV, nckV, extV, stV, ldV, cellsAt, HO.cells, HO.wr, rdCells, wrCells, AV.cells, fillV, partsV, binV, intBin, unV, mmL, mmV, lenV, capV, Nat.reduceAdd, Nat.reduceEqDiff, Nat.reduceLeDiff, Nat.reduceMul, Nat.reduceSub, Nat.le_refl, reduceCtorEq, reduceIte, resV, retV, Ex.done, noH, implies_true, imp_self, forall_const, Nat.not_lt_zero, Int.reduceLT, Int.reduceLE]; simp [intC]) (by simp), txPlain (t := mkTx now x _ true)⟩
    · simp only [if_neg (show ¬ x.kind = 12 by simpa using h12)]
      simp only [S0, S1, S2, S3, S4, S5, isnilV, Nat.reduceLT, updH, LA.ev, initA, evs, convV, faV, nckV, extV, stV, ldV, cellsAt, HO.cells, HO.wr, rdCells, wrCells, AV.cells, fillV, partsV, binV, intBin, unV, mmL, mmV, lenV, capV, Nat.reduceAdd, Nat.reduceEqDiff, Nat.reduceLeDiff, Nat.reduceMul, Nat.reduceSub, Nat.le_refl, reduceCtorEq, reduceIte, resV, retV, Ex.done, noH, implies_true, imp_self, forall_const, Nat.not_lt_zero, Int.reduceLT, Int.reduceLE, h12]
      exact ⟨freeze_plain (txPlain (t := mkTx now x x.args.l true)), txPlain (t := mkTx now x x.args.l true)⟩

end Go.Proofs.YtfhflogbffibiaaGreat
