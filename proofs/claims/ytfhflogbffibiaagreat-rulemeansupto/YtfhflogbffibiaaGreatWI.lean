/-
  Walks: the reference's transaction of a command.
-/
import Derived.Test.YtfhflogbffibiaaGreatWH
namespace Go.Proofs.YtfhflogbffibiaaGreat
open Go
set_option linter.unusedVariables false
set_option linter.unusedSimpArgs false

theorem many_ix {kind : Int} (h1 : 1 ≤ kind) (h2 : kind ≤ 13) : ixV 1 (.ro 1 [[.int .i64 0], [.int .i64 2], [.int .i64 4], [.int .i64 2], [.int .i64 2], [.int .i64 3], [.int .i64 3], [.int .i64 5], [.int .i64 1], [.int .i64 1], [.int .i64 1], [.int .i64 1], [.int .i64 1], [.int .i64 2]] true) (.int .i64 kind) = some (.rp [.int .i64 (argsN kind)]) := by
  have : kind = 1 ∨ kind = 2 ∨ kind = 3 ∨ kind = 4 ∨ kind = 5 ∨ kind = 6 ∨ kind = 7 ∨ kind = 8 ∨ kind = 9 ∨ kind = 10 ∨ kind = 11 ∨ kind = 12 ∨ kind = 13 := by omega
  rcases this with rfl | rfl | rfl | rfl | rfl | rfl | rfl | rfl | rfl | rfl | rfl | rfl | rfl <;> rfl

theorem argsN_pos {kind : Int} (h1 : 1 ≤ kind) (h2 : kind ≤ 13) : 1 ≤ argsN kind := by
  have : kind = 1 ∨ kind = 2 ∨ kind = 3 ∨ kind = 4 ∨ kind = 5 ∨ kind = 6 ∨ kind = 7 ∨ kind = 8 ∨ kind = 9 ∨ kind = 10 ∨ kind = 11 ∨ kind = 12 ∨ kind = 13 := by omega
  rcases this with rfl | rfl | rfl | rfl | rfl | rfl | rfl | rfl | rfl | rfl | rfl | rfl | rfl <;> decide

theorem argsN_out {kind : Int} (h : ¬ (1 ≤ kind ∧ kind ≤ 13)) : argsN kind = -1 := by simp only [argsN, if_neg h]

/-- A transaction whose numbers still bear a name, of another kind. -/
theorem freeze_tx2 {H : Heap} {nm n : Nat} {l : List Int} {now e : Int} {x : Cmd} (h : H nm = some (.gro 1 (l.map intC))) (hn : n = l.length) :
    freeze H depth (.tup [.agg [.int .i64 0, .int .i64 now, .int .i64 x.kind, .str x.key, .str x.name, .gs nm 1 0 n, .ro 2 [] true], .int .i64 e]) = some (.tup [.agg (mkTx now x l false).cells, .int .i64 e]) := by
  have hg : freeze H (20 + 1 + 1) (.gs nm 1 0 n) = some (.ro 1 (l.map intC) false) := by
    rw [freeze, if_neg (by simp [AV.plainN])]
    simp only [els_gs h (by simpa using hn)]
    rw [optL_id fun x hx => optL_id fun a ha => freeze_plain' 20 ?_]
    · rfl
    · obtain ⟨b, _, rfl⟩ := List.mem_map.1 hx
      simp only [intC, List.mem_singleton] at ha
      subst ha; rfl
  exact freeze_tup (n := 23) (optL_cons (freeze_agg (n := 22) (optL_cons rfl (optL_cons rfl (optL_cons rfl (optL_cons rfl (optL_cons rfl (optL_cons hg (optL_cons rfl optL_nil))))))) rfl) (optL_cons rfl optL_nil)) rfl

theorem flat_ints {l : List Int} : (l.map intC).flatten = l.map (fun n => AV.int .i64 n) := by
  induction l with
  | nil => rfl
  | cons a l ih => simp only [List.map_cons, List.flatten_cons, ih, intC]; rfl

theorem getD_ints {l : List Int} (n : Nat) (h : n < l.length) : (l.map (fun n => AV.int .i64 n)).getD n .any = .int .i64 (l.getD n 0) := by simp [List.getD, h]

theorem ix_gs {E nm len : Nat} {k : IntKind} (n : Nat) (h : n < len) : ixV E (.gs nm E 0 len) (.int k (n : Int)) = some (.np nm (n * E)) := by
  simp only [ixV]
  rw [if_pos ⟨trivial, by omega, by omega⟩]
  simp

set_option maxHeartbeats 4000000 in
/-- ref21.Tx -/
theorem pure22 (c : Cfg) (s : State) (now : Int) (x : Cmd) (h1 : s.rates.l.length ≤ 1073741824) (h2 : s.jobs.l.length ≤ 1073741824) (h3 : x.args.l.length ≤ 1073741824) :
    Pure 22 [.agg c.cells, .agg s.cells, .int .i64 now, .agg x.cells] (.tup [.agg (txT now x (txF c s now x).1 false).cells, .int .i64 (txF c s now x).2]) := by
  refine fn_run g22 rfl (Nat.le_of_ble_eq_true rfl) ?_
  dsimp only [k22, c22]
  simp only [S0, S1, S2, S3, S4, S5, isnilV, Nat.reduceLT, updH, LA.ev, initA, evs, convV, faV, nckV, extV, stV, ldV, cellsAt, HO.cells, HO.wr, rdCells, wrCells, AV.cells, fillV, partsV, binV, intBin, unV, mmL, mmV, lenV, capV, Nat.reduceAdd, Nat.reduceEqDiff, Nat.reduceLeDiff, Nat.reduceMul, Nat.reduceSub, Nat.le_refl, reduceCtorEq, reduceIte, resV, retV, Ex.done, noH, implies_true, imp_self, forall_const, Nat.not_lt_zero, Int.reduceLT, Int.reduceLE, Cfg.cells, State.cells, Cmd.cells]
  refine run_gdf (fun ha => ?_) (fun ha => ?_)
  rotate_left
  · simp only [S0, S1, S2, S3, S4, S5, isnilV, Nat.reduceLT, updH, LA.ev, initA, evs, convV, faV, nckV, extV, stV, ldV, cellsAt, HO.cells, HO.wr, rdCells, wrCells, AV.cells, fillV, partsV, binV, intBin, unV, mmL, mmV, lenV, capV, Nat.reduceAdd, Nat.reduceEqDiff, Nat.reduceLeDiff, Nat.reduceMul, Nat.reduceSub, Nat.le_refl, reduceCtorEq, reduceIte, resV, retV, Ex.done, noH, implies_true, imp_self, forall_const, Nat.not_lt_zero, Int.reduceLT, Int.reduceLE, ha]
    repeat' (first | refine run_gdt (fun h => ?_) (fun h => ?_) <;> simp only [S0, S1, S2, S3, S4, S5, isnilV, Nat.reduceLT, updH, LA.ev, initA, evs, convV, faV, nckV, extV, stV, ldV, cellsAt, HO.cells, HO.wr, rdCells, wrCells, AV.cells, fillV, partsV, binV, intBin, unV, mmL, mmV, lenV, capV, Nat.reduceAdd, Nat.reduceEqDiff, Nat.reduceLeDiff, Nat.reduceMul, Nat.reduceSub, Nat.le_refl, reduceCtorEq, reduceIte, resV, retV, Ex.done, noH, implies_true, imp_self, forall_const, Nat.not_lt_zero, Int.reduceLT, Int.reduceLE, ha, h] | refine run_gdf (fun h => ?_) (fun h => ?_) <;> simp only [S0, S1, S2, S3, S4, S5, isnilV, Nat.reduceLT, updH, LA.ev, initA, evs, convV, faV, nckV, extV, stV, ldV, cellsAt, HO.cells, HO.wr, rdCells, wrCells, AV.cells, fillV, partsV, binV, intBin, unV, mmL, mmV, lenV, capV, Nat.reduceAdd, Nat.reduceEqDiff, Nat.reduceLeDiff, Nat.reduceMul, Nat.reduceSub, Nat.le_refl, reduceCtorEq, reduceIte, resV, retV, Ex.done, noH, implies_true, imp_self, forall_const, Nat.not_lt_zero, Int.reduceLT, Int.reduceLE, ha, h] | refine run_sel (fun h => ?_) (fun h => ?_) <;> simp only [S0, S1, S2, S3, S4, S5, isnilV, Nat.reduceLT, updH, LA.ev, initA, evs, convV, faV, nckV, extV, stV, ldV, cellsAt, HO.cells, HO.wr, rdCells, wrCells, AV.cells, fillV, partsV, binV, intBin, unV, mmL, mmV, lenV, capV, Nat.reduceAdd, Nat.reduceEqDiff, Nat.reduceLeDiff, Nat.reduceMul, Nat.reduceSub, Nat.le_refl, reduceCtorEq, reduceIte, resV, retV, Ex.done, noH, implies_true, imp_self, forall_const, Nat.not_lt_zero, Int.reduceLT, Int.reduceLE, ha, h])
    have e : argsN x.kind ≠ x.args.l.length := by rw [argsN_out (by simp at ha; omega)]; omega
    simp only [txF, if_pos e]
    exact ⟨freeze_plain (txPlain (t := zeroTx)), txPlain (t := zeroTx)⟩
  simp only [S0, S1, S2, S3, S4, S5, isnilV, Nat.reduceLT, updH, LA.ev, initA, evs, convV, faV, nckV, extV, stV, ldV, cellsAt, HO.cells, HO.wr, rdCells, wrCells, AV.cells, fillV, partsV, binV, intBin, unV, mmL, mmV, lenV, capV, Nat.reduceAdd, Nat.reduceEqDiff, Nat.reduceLeDiff, Nat.reduceMul, Nat.reduceSub, Nat.le_refl, reduceCtorEq, reduceIte, resV, retV, Ex.done, noH, implies_true, imp_self, forall_const, Nat.not_lt_zero, Int.reduceLT, Int.reduceLE, ha]
  refine run_gdf (fun hb => ?_) (fun hb => ?_)
  rotate_left
  · simp only [S0, S1, S2, S3, S4, S5, isnilV, Nat.reduceLT, updH, LA.ev, initA, evs, convV, faV, nckV, extV, stV, ldV, cellsAt, HO.cells, HO.wr, rdCells, wrCells, AV.cells, fillV, partsV, binV, intBin, unV, mmL, mmV, lenV, capV, Nat.reduceAdd, Nat.reduceEqDiff, Nat.reduceLeDiff, Nat.reduceMul, Nat.reduceSub, Nat.le_refl, reduceCtorEq, reduceIte, resV, retV, Ex.done, noH, implies_true, imp_self, forall_const, Nat.not_lt_zero, Int.reduceLT, Int.reduceLE, hb]
    repeat' (first | refine run_gdt (fun h => ?_) (fun h => ?_) <;> simp only [S0, S1, S2, S3, S4, S5, isnilV, Nat.reduceLT, updH, LA.ev, initA, evs, convV, faV, nckV, extV, stV, ldV, cellsAt, HO.cells, HO.wr, rdCells, wrCells, AV.cells, fillV, partsV, binV, intBin, unV, mmL, mmV, lenV, capV, Nat.reduceAdd, Nat.reduceEqDiff, Nat.reduceLeDiff, Nat.reduceMul, Nat.reduceSub, Nat.le_refl, reduceCtorEq, reduceIte, resV, retV, Ex.done, noH, implies_true, imp_self, forall_const, Nat.not_lt_zero, Int.reduceLT, Int.reduceLE, hb, h] | refine run_gdf (fun h => ?_) (fun h => ?_) <;> simp only [S0, S1, S2, S3, S4, S5, isnilV, Nat.reduceLT, updH, LA.ev, initA, evs, convV, faV, nckV, extV, stV, ldV, cellsAt, HO.cells, HO.wr, rdCells, wrCells, AV.cells, fillV, partsV, binV, intBin, unV, mmL, mmV, lenV, capV, Nat.reduceAdd, Nat.reduceEqDiff, Nat.reduceLeDiff, Nat.reduceMul, Nat.reduceSub, Nat.le_refl, reduceCtorEq, reduceIte, resV, retV, Ex.done, noH, implies_true, imp_self, forall_const, Nat.not_lt_zero, Int.reduceLT, Int.reduceLE, hb, h] | refine run_sel (fun h => ?_) (fun h => ?_) <;> simp only [S0, S1, S2, S3, S4, S5, isnilV, Nat.reduceLT, updH, LA.ev, initA, evs, convV, faV, nckV, extV, stV, ldV, cellsAt, HO.cells, HO.wr, rdCells, wrCells, AV.cells, fillV, partsV, binV, intBin, unV, mmL, mmV, lenV, capV, Nat.reduceAdd, Nat.reduceEqDiff, Nat.reduceLeDiff, Nat.reduceMul, Nat.reduceSub, Nat.le_refl, reduceCtorEq, reduceIte, resV, retV, Ex.done, noH, implies_true, imp_self, forall_const, Nat.not_lt_zero, Int.reduceLT, Int.reduceLE, hb, h])
    have e : argsN x.kind ≠ x.args.l.length := by rw [argsN_out (by simp at hb; omega)]; omega
    simp only [txF, if_pos e]
    exact ⟨freeze_plain (txPlain (t := zeroTx)), txPlain (t := zeroTx)⟩
  have k1 : 1 ≤ x.kind := by simp at ha; omega
  have k2 : x.kind ≤ 13 := by simp at hb; omega
  have hp := argsN_pos k1 k2
  simp only [S0, S1, S2, S3, S4, S5, isnilV, Nat.reduceLT, updH, LA.ev, initA, evs, convV, faV, nckV, extV, stV, ldV, cellsAt, HO.cells, HO.wr, rdCells, wrCells, AV.cells, fillV, partsV, binV, intBin, unV, mmL, mmV, lenV, capV, Nat.reduceAdd, Nat.reduceEqDiff, Nat.reduceLeDiff, Nat.reduceMul, Nat.reduceSub, Nat.le_refl, reduceCtorEq, reduceIte, resV, retV, Ex.done, noH, implies_true, imp_self, forall_const, Nat.not_lt_zero, Int.reduceLT, Int.reduceLE, hb, many_ix k1 k2]
  refine run_sel (fun h => ?_) (fun h => ?_)
  · simp only [S0, S1, S2, S3, S4, S5, isnilV, Nat.reduceLT, updH, LA.ev, initA, evs, convV, faV, nckV, extV, stV, ldV, cellsAt, HO.cells, HO.wr, rdCells, wrCells, AV.cells, fillV, partsV, binV, intBin, unV, mmL, mmV, lenV, capV, Nat.reduceAdd, Nat.reduceEqDiff, Nat.reduceLeDiff, Nat.reduceMul, Nat.reduceSub, Nat.le_refl, reduceCtorEq, reduceIte, resV, retV, Ex.done, noH, implies_true, imp_self, forall_const, Nat.not_lt_zero, Int.reduceLT, Int.reduceLE, h]
    have e : argsN x.kind ≠ x.args.l.length := by simp at h; omega
    simp only [txF, if_pos e]
    exact ⟨freeze_plain (txPlain (t := zeroTx)), txPlain (t := zeroTx)⟩
  have hl : ¬ argsN x.kind ≠ x.args.l.length := by simp at h; omega
  have hne : x.args.l.map intC ≠ [] := by intro e; have := congrArg List.length e; simp at this; rw [this] at hl; simp at hl; omega
  simp only [S0, S1, S2, S3, S4, S5, isnilV, Nat.reduceLT, updH, LA.ev, initA, evs, convV, faV, nckV, extV, stV, ldV, cellsAt, HO.cells, HO.wr, rdCells, wrCells, AV.cells, fillV, partsV, binV, intBin, unV, mmL, mmV, lenV, capV, Nat.reduceAdd, Nat.reduceEqDiff, Nat.reduceLeDiff, Nat.reduceMul, Nat.reduceSub, Nat.le_refl, reduceCtorEq, reduceIte, resV, retV, Ex.done, noH, implies_true, imp_self, forall_const, Nat.not_lt_zero, Int.reduceLT, Int.reduceLE, h]
  rw [app_new hne rfl (by simp; omega)]
  simp only [S0, S1, S2, S3, S4, S5, isnilV, Nat.reduceLT, updH, LA.ev, initA, evs, convV, faV, nckV, extV, stV, ldV, cellsAt, HO.cells, HO.wr, rdCells, wrCells, AV.cells, fillV, partsV, binV, intBin, unV, mmL, mmV, lenV, capV, Nat.reduceAdd, Nat.reduceEqDiff, Nat.reduceLeDiff, Nat.reduceMul, Nat.reduceSub, Nat.le_refl, reduceCtorEq, reduceIte, resV, retV, Ex.done, noH, implies_true, imp_self, forall_const, Nat.not_lt_zero, Int.reduceLT, Int.reduceLE]
  have hlen : (0 : Nat) + x.args.l.length = x.args.l.length := Nat.zero_add _
  refine run_sel (fun h7 => ?_) (fun h7 => ?_)
  · have k7 : x.kind = 7 := by simpa using h7
    have l5 : 5 ≤ x.args.l.length := by
      rw [k7] at hl
      have : argsN 7 = 5 := rfl
      omega
    have f2 : 2 ≤ x.args.l.length := by omega
    have f4 : 4 ≤ x.args.l.length := by omega
    have g1 := getD_ints (l := x.args.l) 1 (by omega)
    have g3 := getD_ints (l := x.args.l) 3 (by omega)
    have i1 : ∀ nm, ixV 1 (.gs nm 1 0 x.args.l.length) (.int .i64 1) = some (.np nm 1) := fun nm => ix_gs 1 (by omega)
    have i3 : ∀ nm, ixV 1 (.gs nm 1 0 x.args.l.length) (.int .i64 3) = some (.np nm 3) := fun nm => ix_gs 3 (by omega)
    simp only [S0, S1, S2, S3, S4, S5, isnilV, Nat.reduceLT, updH, LA.ev, initA, evs, convV, faV, nckV, extV, stV, ldV, cellsAt, HO.cells, HO.wr, rdCells, wrCells, AV.cells, fillV, partsV, binV, intBin, unV, mmL, mmV, lenV, capV, Nat.reduceAdd, Nat.reduceEqDiff, Nat.reduceLeDiff, Nat.reduceMul, Nat.reduceSub, Nat.le_refl, reduceCtorEq, reduceIte, resV, retV, Ex.done, noH, implies_true, imp_self, forall_const, Nat.not_lt_zero, Int.reduceLT, Int.reduceLE, h7, hlen, i1, i3, flat_ints, f2, f4, g1, g3]
    refine run_sel (fun hq => ?_) (fun hq => ?_)
    · have e : priceR c s now x.args.l = (0, 13) := by simp only [priceR, if_pos (of_decide_eq_true hq)]
      simp only [S0, S1, S2, S3, S4, S5, isnilV, Nat.reduceLT, updH, LA.ev, initA, evs, convV, faV, nckV, extV, stV, ldV, cellsAt, HO.cells, HO.wr, rdCells, wrCells, AV.cells, fillV, partsV, binV, intBin, unV, mmL, mmV, lenV, capV, Nat.reduceAdd, Nat.reduceEqDiff, Nat.reduceLeDiff, Nat.reduceMul, Nat.reduceSub, Nat.le_refl, reduceCtorEq, reduceIte, resV, retV, Ex.done, noH, implies_true, imp_self, forall_const, Nat.not_lt_zero, Int.reduceLT, Int.reduceLE, hq]
      simp only [txF, if_neg hl, if_pos k7, e]
      exact ⟨freeze_plain (txPlain (t := zeroTx)), txPlain (t := zeroTx)⟩
    have e : priceR c s now x.args.l = ((priceF s.rates.l (x.args.l.getD 3 0) now).1.price, (priceF s.rates.l (x.args.l.getD 3 0) now).2) := by simp only [priceR, if_neg (of_decide_eq_false hq)]
    simp only [S0, S1, S2, S3, S4, S5, isnilV, Nat.reduceLT, updH, LA.ev, initA, evs, convV, faV, nckV, extV, stV, ldV, cellsAt, HO.cells, HO.wr, rdCells, wrCells, AV.cells, fillV, partsV, binV, intBin, unV, mmL, mmV, lenV, capV, Nat.reduceAdd, Nat.reduceEqDiff, Nat.reduceLeDiff, Nat.reduceMul, Nat.reduceSub, Nat.le_refl, reduceCtorEq, reduceIte, resV, retV, Ex.done, noH, implies_true, imp_self, forall_const, Nat.not_lt_zero, Int.reduceLT, Int.reduceLE, hq, hlen, i1, i3, flat_ints, f2, f4, g1, g3]
    rw [run_pure (pure64 s.rates.l s.rates.c (x.args.l.getD 3 0) now h1) rfl (by simp only [List.all_cons, plain_rates]; rfl)]
    simp only [S0, S1, S2, S3, S4, S5, isnilV, Nat.reduceLT, updH, LA.ev, initA, evs, convV, faV, nckV, extV, stV, ldV, cellsAt, HO.cells, HO.wr, rdCells, wrCells, AV.cells, fillV, partsV, binV, intBin, unV, mmL, mmV, lenV, capV, Nat.reduceAdd, Nat.reduceEqDiff, Nat.reduceLeDiff, Nat.reduceMul, Nat.reduceSub, Nat.le_refl, reduceCtorEq, reduceIte, resV, retV, Ex.done, noH, implies_true, imp_self, forall_const, Nat.not_lt_zero, Int.reduceLT, Int.reduceLE]
    refine run_sel (fun he => ?_) (fun he => ?_)
    · simp only [S0, S1, S2, S3, S4, S5, isnilV, Nat.reduceLT, updH, LA.ev, initA, evs, convV, faV, nckV, extV, stV, ldV, cellsAt, HO.cells, HO.wr, rdCells, wrCells, AV.cells, fillV, partsV, binV, intBin, unV, mmL, mmV, lenV, capV, Nat.reduceAdd, Nat.reduceEqDiff, Nat.reduceLeDiff, Nat.reduceMul, Nat.reduceSub, Nat.le_refl, reduceCtorEq, reduceIte, resV, retV, Ex.done, noH, implies_true, imp_self, forall_const, Nat.not_lt_zero, Int.reduceLT, Int.reduceLE, he]
      simp only [txF, if_neg hl, if_pos k7, e, if_pos (show (priceF s.rates.l (x.args.l.getD 3 0) now).2 ≠ 0 by simpa using he)]
      exact ⟨freeze_plain (txPlain (t := zeroTx)), txPlain (t := zeroTx)⟩
    simp only [S0, S1, S2, S3, S4, S5, isnilV, Nat.reduceLT, updH, LA.ev, initA, evs, convV, faV, nckV, extV, stV, ldV, cellsAt, HO.cells, HO.wr, rdCells, wrCells, AV.cells, fillV, partsV, binV, intBin, unV, mmL, mmV, lenV, capV, Nat.reduceAdd, Nat.reduceEqDiff, Nat.reduceLeDiff, Nat.reduceMul, Nat.reduceSub, Nat.le_refl, reduceCtorEq, reduceIte, resV, retV, Ex.done, noH, implies_true, imp_self, forall_const, Nat.not_lt_zero, Int.reduceLT, Int.reduceLE, he, hlen]
    rw [app_gs (xs := x.args.l.map intC) (by simp) (by simp only [S0, S1, S2, S3, S4, S5, isnilV, Nat.reduceLT, updH, LA.ev, initA, evs, convV, faV, nckV, extV, stV, ldV, cellsAt, HO.cells, HO.wr, rdCells, wrCells, AV.cells, fillV, partsV, binV, intBin, unV, mmL, mmV, lenV, capV, Nat.reduceAdd, Nat.reduceEqDiff, Nat.reduceLeDiff, Nat.reduceMul, Nat.reduceSub, Nat.le_refl, reduceCtorEq, reduceIte, resV, retV, Ex.done, noH, implies_true, imp_self, forall_const, Nat.not_lt_zero, Int.reduceLT, Int.reduceLE]) (by simp only [S0, S1, S2, S3, S4, S5, isnilV, Nat.reduceLT, updH, LA.ev, initA, evs, convV, faV, nckV, extV, stV, ldV, cellsAt, HO.cells, HO.wr, rdCells, wrCells, AV.cells, fillV, partsV, binV, intBin, unV, mmL, mmV, lenV, capV, Nat.reduceAdd, Nat.reduceEqDiff, Nat.reduceLeDiff, Nat.reduceMul, Nat.reduceSub, Nat.le_refl, reduceCtorEq, reduceIte, resV, retV, Ex.done, noH, implies_true, imp_self, forall_const, Nat.not_lt_zero, Int.reduceLT, Int.reduceLE]) (by simp) (by simp; omega)]
    have k12 : (x.kind == 12) = false := by rw [k7]; rfl
    simp only [S0, S1, S2, S3, S4, S5, isnilV, Nat.reduceLT, updH, LA.ev, initA, evs, convV, faV, nckV, extV, stV, ldV, cellsAt, HO.cells, HO.wr, rdCells, wrCells, AV.cells, fillV, partsV, binV, intBin, unV, mmL, mmV, lenV, capV, Nat.reduceAdd, Nat.reduceEqDiff, Nat.reduceLeDiff, Nat.reduceMul, Nat.reduceSub, Nat.le_refl, reduceCtorEq, reduceIte, resV, retV, Ex.done, noH, implies_true, imp_self, forall_const, Nat.not_lt_zero, Int.reduceLT, Int.reduceLE, k12]
    simp only [txF, if_neg hl, if_pos k7, e, if_neg (show ¬ (priceF s.rates.l (x.args.l.getD 3 0) now).2 ≠ 0 by simpa using he)]
    exact ⟨freeze_tx2 (l := x.args.l ++ [(priceF s.rates.l (x.args.l.getD 3 0) now).1.price]) (by simp only [S0, S1, S2, S3, S4, S5, isnilV, Nat.reduceLT, updH, LA.ev, initA, evs, convV, faV, nckV, extV, stV, ldV, cellsAt, HO.cells, HO.wr, rdCells, wrCells, AV.cells, fillV, partsV, binV, intBin, unV, mmL, mmV, lenV, capV, Nat.reduceAdd, Nat.reduceEqDiff, Nat.reduceLeDiff, Nat.reduceMul, Nat.reduceSub, Nat.le_refl, reduceCtorEq, reduceIte, resV, retV, Ex.done, noH, implies_true, imp_self, forall_const, Nat.not_lt_zero, Int.reduceLT, Int.reduceLE]; simp [intC]) (by simp), txPlain (t := mkTx now x _ false)⟩
  have n7 : ¬ x.kind = 7 := by simpa using h7
  simp only [S0, S1, S2, S3, S4, S5, isnilV, Nat.reduceLT, updH, LA.ev, initA, evs, convV, faV, nckV, extV, stV, ldV, cellsAt, HO.cells, HO.wr, rdCells, wrCells, AV.cells, fillV, partsV, binV, intBin, unV, mmL, mmV, lenV, capV, Nat.reduceAdd, Nat.reduceEqDiff, Nat.reduceLeDiff, Nat.reduceMul, Nat.reduceSub, Nat.le_refl, reduceCtorEq, reduceIte, resV, retV, Ex.done, noH, implies_true, imp_self, forall_const, Nat.not_lt_zero, Int.reduceLT, Int.reduceLE, h7]
  refine run_sel (fun h12 => ?_) (fun h12 => ?_)
  · have k12 : x.kind = 12 := by simpa using h12
    have l1 : 1 ≤ x.args.l.length := by omega
    have g0 := getD_ints (l := x.args.l) 0 (by omega)
    have i0 : ∀ nm, ixV 1 (.gs nm 1 0 x.args.l.length) (.int .i64 0) = some (.np nm 0) := fun nm => (ix_gs 0 (by omega)).trans (by simp)
    simp only [S0, S1, S2, S3, S4, S5, isnilV, Nat.reduceLT, updH, LA.ev, initA, evs, convV, faV, nckV, extV, stV, ldV, cellsAt, HO.cells, HO.wr, rdCells, wrCells, AV.cells, fillV, partsV, binV, intBin, unV, mmL, mmV, lenV, capV, Nat.reduceAdd, Nat.reduceEqDiff, Nat.reduceLeDiff, Nat.reduceMul, Nat.reduceSub, Nat.le_refl, reduceCtorEq, reduceIte, resV, retV, Ex.done, noH, implies_true, imp_self, forall_const, Nat.not_lt_zero, Int.reduceLT, Int.reduceLE, h12, hlen, i0, flat_ints, l1, g0]
    cases hf : s.jobs.l.findIdx? (fun j => j.id == x.args.l.getD 0 0) with
    | none =>
      have hi : idx (fun j => j.id == x.args.l.getD 0 0) s.jobs.l = -1 := by simp only [idx, hf]
      simp only [S0, S1, S2, S3, S4, S5, isnilV, Nat.reduceLT, updH, LA.ev, initA, evs, convV, faV, nckV, extV, stV, ldV, cellsAt, HO.cells, HO.wr, rdCells, wrCells, AV.cells, fillV, partsV, binV, intBin, unV, mmL, mmV, lenV, capV, Nat.reduceAdd, Nat.reduceEqDiff, Nat.reduceLeDiff, Nat.reduceMul, Nat.reduceSub, Nat.le_refl, reduceCtorEq, reduceIte, resV, retV, Ex.done, noH, implies_true, imp_self, forall_const, Nat.not_lt_zero, Int.reduceLT, Int.reduceLE, call57 h2, hi, Int.reduceNeg, Int.reduceLT, decide_true]
      have hu : usedF s.jobs.l now (x.args.l.getD 0 0) = (0, 4) := by simp only [usedF, hf]
      simp only [txF, if_neg hl, if_neg n7, if_pos k12, hu]
      exact ⟨freeze_plain (txPlain (t := zeroTx)), txPlain (t := zeroTx)⟩
    | some i =>
      have hi : idx (fun j => j.id == x.args.l.getD 0 0) s.jobs.l = i := by simp only [idx, hf]
      obtain ⟨hlt, _, _⟩ := List.findIdx?_eq_some_iff_getElem.1 hf
      obtain ⟨r, hr⟩ : ∃ r, s.jobs.l[i] = r := ⟨_, rfl⟩
      have hn : decide ((i : Int) < 0) = false := decide_eq_false (by omega)
      have hj : s.jobs.l[i]? = some r := by rw [List.getElem?_eq_getElem hlt, hr]
      simp only [S0, S1, S2, S3, S4, S5, isnilV, Nat.reduceLT, updH, LA.ev, initA, evs, convV, faV, nckV, extV, stV, ldV, cellsAt, HO.cells, HO.wr, rdCells, wrCells, AV.cells, fillV, partsV, binV, intBin, unV, mmL, mmV, lenV, capV, Nat.reduceAdd, Nat.reduceEqDiff, Nat.reduceLeDiff, Nat.reduceMul, Nat.reduceSub, Nat.le_refl, reduceCtorEq, reduceIte, resV, retV, Ex.done, noH, implies_true, imp_self, forall_const, Nat.not_lt_zero, Int.reduceLT, Int.reduceLE, call57 h2, hi, hn, hlt, hr, Job.cells]
      refine run_sel (fun hs => ?_) (fun hs => ?_)
      · simp only [S0, S1, S2, S3, S4, S5, isnilV, Nat.reduceLT, updH, LA.ev, initA, evs, convV, faV, nckV, extV, stV, ldV, cellsAt, HO.cells, HO.wr, rdCells, wrCells, AV.cells, fillV, partsV, binV, intBin, unV, mmL, mmV, lenV, capV, Nat.reduceAdd, Nat.reduceEqDiff, Nat.reduceLeDiff, Nat.reduceMul, Nat.reduceSub, Nat.le_refl, reduceCtorEq, reduceIte, resV, retV, Ex.done, noH, implies_true, imp_self, forall_const, Nat.not_lt_zero, Int.reduceLT, Int.reduceLE, hs]
        have hu : usedF s.jobs.l now (x.args.l.getD 0 0) = (0, 9) := by simp only [usedF, hf, hj]; rw [if_pos (by simpa using hs)]
        simp only [txF, if_neg hl, if_neg n7, if_pos k12, hu]
        exact ⟨freeze_plain (txPlain (t := zeroTx)), txPlain (t := zeroTx)⟩
      have hu : usedF s.jobs.l now (x.args.l.getD 0 0) = (if (if r.wall < IntKind.i64.wrap (now - r.start) then r.wall else IntKind.i64.wrap (now - r.start)) > 0 then (if r.wall < IntKind.i64.wrap (now - r.start) then r.wall else IntKind.i64.wrap (now - r.start)) else 0, 0) := by
        simp only [usedF, hf, hj]; rw [if_neg (c := r.state ≠ 3) (by simpa using hs)]
      simp only [txF, if_neg hl, if_neg n7, if_pos k12, hu, if_neg (show ¬ ((0 : Int) ≠ 0) by simp)]
      generalize hw : IntKind.i64.wrap (now - r.start) = w at *
      simp only [S0, S1, S2, S3, S4, S5, isnilV, Nat.reduceLT, updH, LA.ev, initA, evs, convV, faV, nckV, extV, stV, ldV, cellsAt, HO.cells, HO.wr, rdCells, wrCells, AV.cells, fillV, partsV, binV, intBin, unV, mmL, mmV, lenV, capV, Nat.reduceAdd, Nat.reduceEqDiff, Nat.reduceLeDiff, Nat.reduceMul, Nat.reduceSub, Nat.le_refl, reduceCtorEq, reduceIte, resV, retV, Ex.done, noH, implies_true, imp_self, forall_const, Nat.not_lt_zero, Int.reduceLT, Int.reduceLE, hs, hlt, hr, Job.cells, hw]
      refine run_sel (fun hq => ?_) (fun hq => ?_)
      all_goals
        simp only [S0, S1, S2, S3, S4, S5, isnilV, Nat.reduceLT, updH, LA.ev, initA, evs, convV, faV, nckV, extV, stV, ldV, cellsAt, HO.cells, HO.wr, rdCells, wrCells, AV.cells, fillV, partsV, binV, intBin, unV, mmL, mmV, lenV, capV, Nat.reduceAdd, Nat.reduceEqDiff, Nat.reduceLeDiff, Nat.reduceMul, Nat.reduceSub, Nat.le_refl, reduceCtorEq, reduceIte, resV, retV, Ex.done, noH, implies_true, imp_self, forall_const, Nat.not_lt_zero, Int.reduceLT, Int.reduceLE, hq, hlt, hr, Job.cells, hw]
        refine run_sel (fun hz => ?_) (fun hz => ?_)
      all_goals
        simp only [S0, S1, S2, S3, S4, S5, isnilV, Nat.reduceLT, updH, LA.ev, initA, evs, convV, faV, nckV, extV, stV, ldV, cellsAt, HO.cells, HO.wr, rdCells, wrCells, AV.cells, fillV, partsV, binV, intBin, unV, mmL, mmV, lenV, capV, Nat.reduceAdd, Nat.reduceEqDiff, Nat.reduceLeDiff, Nat.reduceMul, Nat.reduceSub, Nat.le_refl, reduceCtorEq, reduceIte, resV, retV, Ex.done, noH, implies_true, imp_self, forall_const, Nat.not_lt_zero, Int.reduceLT, Int.reduceLE, hz, hlen]
        rw [app_gs (xs := x.args.l.map intC) (by simp) (by simp only [S0, S1, S2, S3, S4, S5, isnilV, Nat.reduceLT, updH, LA.ev, initA, evs, convV, faV, nckV, extV, stV, ldV, cellsAt, HO.cells, HO.wr, rdCells, wrCells, AV.cells, fillV, partsV, binV, intBin, unV, mmL, mmV, lenV, capV, Nat.reduceAdd, Nat.reduceEqDiff, Nat.reduceLeDiff, Nat.reduceMul, Nat.reduceSub, Nat.le_refl, reduceCtorEq, reduceIte, resV, retV, Ex.done, noH, implies_true, imp_self, forall_const, Nat.not_lt_zero, Int.reduceLT, Int.reduceLE]) (by simp only [S0, S1, S2, S3, S4, S5, isnilV, Nat.reduceLT, updH, LA.ev, initA, evs, convV, faV, nckV, extV, stV, ldV, cellsAt, HO.cells, HO.wr, rdCells, wrCells, AV.cells, fillV, partsV, binV, intBin, unV, mmL, mmV, lenV, capV, Nat.reduceAdd, Nat.reduceEqDiff, Nat.reduceLeDiff, Nat.reduceMul, Nat.reduceSub, Nat.le_refl, reduceCtorEq, reduceIte, resV, retV, Ex.done, noH, implies_true, imp_self, forall_const, Nat.not_lt_zero, Int.reduceLT, Int.reduceLE]) (by simp) (by simp; omega)]
        simp only [S0, S1, S2, S3, S4, S5, isnilV, Nat.reduceLT, updH, LA.ev, initA, evs, convV, faV, nckV, extV, stV, ldV, cellsAt, HO.cells, HO.wr, rdCells, wrCells, AV.cells, fillV, partsV, binV, intBin, unV, mmL, mmV, lenV, capV, Nat.reduceAdd, Nat.reduceEqDiff, Nat.reduceLeDiff, Nat.reduceMul, Nat.reduceSub, Nat.le_refl, reduceCtorEq, reduceIte, resV, retV, Ex.done, noH, implies_true, imp_self, forall_const, Nat.not_lt_zero, Int.reduceLT, Int.reduceLE]
      · have e1 : (if r.wall < w then r.wall else w) = r.wall := if_pos (by simpa using hq)
        have e2 : (if r.wall > 0 then r.wall else 0) = 0 := if_neg (by simp at hz; omega)
        simp only [e1, e2]
        exact ⟨freeze_tx2 (l := x.args.l ++ [0]) (by simp only [S0, S1, S2, S3, S4, S5, isnilV, Nat.reduceLT, updH, LA.ev, initA, evs, convV, faV, nckV, extV, stV, ldV, cellsAt, HO.cells, HO.wr, rdCells, wrCells, AV.cells, fillV, partsV, binV, intBin, unV, mmL, mmV, lenV, capV, Nat.reduceAdd, Nat.reduceEqDiff, Nat.reduceLeDiff, Nat.reduceMul, Nat.reduceSub, Nat.le_refl, reduceCtorEq, reduceIte, resV, retV, Ex.done, noH, implies_true, imp_self, forall_const, Nat.not_lt_zero, Int.reduceLT, Int.reduceLE]; simp [intC]) (by simp), txPlain (t := mkTx now x _ false)⟩
      · have e1 : (if r.wall < w then r.wall else w) = r.wall := if_pos (by simpa using hq)
        have e2 : (if r.wall > 0 then r.wall else 0) = r.wall := by simp at hz; split <;> omega
        simp only [e1, e2]
        exact ⟨freeze_tx2 (l := x.args.l ++ [r.wall]) (by simp only [S0, S1, S2, S3, S4, S5, isnilV, Nat.reduceLT, updH, LA.ev, initA, evs, convV, faV, nckV, extV, stV, ldV, cellsAt, HO.cells, HO.wr, rdCells, wrCells, AV.cells, fillV, partsV, binV, intBin, unV, mmL, mmV, lenV, capV, Nat.reduceAdd, Nat.reduceEqDiff, Nat.reduceLeDiff, Nat.reduceMul, Nat.reduceSub, Nat.le_refl, reduceCtorEq, reduceIte, resV, retV, Ex.done, noH, implies_true, imp_self, forall_const, Nat.not_lt_zero, Int.reduceLT, Int.reduceLE]; simp [intC]) (by simp), txPlain (t := mkTx now x _ false)⟩
      · have e1 : (if r.wall < w then r.wall else w) = w := if_neg (by simp at hq; omega)
        have e2 : (if w > 0 then w else 0) = 0 := if_neg (by simp at hz; omega)
        simp only [e1, e2]
        exact ⟨freeze_tx2 (l := x.args.l ++ [0]) (by simp only [S0, S1, S2, S3, S4, S5, isnilV, Nat.reduceLT, updH, LA.ev, initA, evs, convV, faV, nckV, extV, stV, ldV, cellsAt, HO.cells, HO.wr, rdCells, wrCells, AV.cells, fillV, partsV, binV, intBin, unV, mmL, mmV, lenV, capV, Nat.reduceAdd, Nat.reduceEqDiff, Nat.reduceLeDiff, Nat.reduceMul, Nat.reduceSub, Nat.le_refl, reduceCtorEq, reduceIte, resV, retV, Ex.done, noH, implies_true, imp_self, forall_const, Nat.not_lt_zero, Int.reduceLT, Int.reduceLE]; simp [intC]) (by simp), txPlain (t := mkTx now x _ false)⟩
      · have e1 : (if r.wall < w then r.wall else w) = w := if_neg (by simp at hq; omega)
        have e2 : (if w > 0 then w else 0) = w := by simp at hz; split <;> omega
        simp only [e1, e2]
        exact ⟨freeze_tx2 (l := x.args.l ++ [w]) (by simp only [S0, S1, S2, S3, S4, S5, isnilV, Nat.reduceLT, updH, LA.ev, initA, evs, convV, faV, nckV, extV, stV, ldV, cellsAt, HO.cells, HO.wr, rdCells, wrCells, AV.cells, fillV, partsV, binV, intBin, unV, mmL, mmV, lenV, capV, Nat.reduceAdd, Nat.reduceEqDiff, Nat.reduceLeDiff, Nat.reduceMul, Nat.reduceSub, Nat.le_refl, reduceCtorEq, reduceIte, resV, retV, Ex.done, noH, implies_true, imp_self, forall_const, Nat.not_lt_zero, Int.reduceLT, Int.reduceLE]; simp [intC]) (by simp), txPlain (t := mkTx now x _ false)⟩
  · simp only [S0, S1, S2, S3, S4, S5, isnilV, Nat.reduceLT, updH, LA.ev, initA, evs, convV, faV, nckV, extV, stV, ldV, cellsAt, HO.cells, HO.wr, rdCells, wrCells, AV.cells, fillV, partsV, binV, intBin, unV, mmL, mmV, lenV, capV, Nat.reduceAdd, Nat.reduceEqDiff, Nat.reduceLeDiff, Nat.reduceMul, Nat.reduceSub, Nat.le_refl, reduceCtorEq, reduceIte, resV, retV, Ex.done, noH, implies_true, imp_self, forall_const, Nat.not_lt_zero, Int.reduceLT, Int.reduceLE, h12, hlen]
    simp only [txF, if_neg hl, if_neg n7, if_neg (show ¬ x.kind = 12 by simpa using h12)]
    exact ⟨freeze_tx2 (l := x.args.l) (by simp only [S0, S1, S2, S3, S4, S5, isnilV, Nat.reduceLT, updH, LA.ev, initA, evs, convV, faV, nckV, extV, stV, ldV, cellsAt, HO.cells, HO.wr, rdCells, wrCells, AV.cells, fillV, partsV, binV, intBin, unV, mmL, mmV, lenV, capV, Nat.reduceAdd, Nat.reduceEqDiff, Nat.reduceLeDiff, Nat.reduceMul, Nat.reduceSub, Nat.le_refl, reduceCtorEq, reduceIte, resV, retV, Ex.done, noH, implies_true, imp_self, forall_const, Nat.not_lt_zero, Int.reduceLT, Int.reduceLE]) rfl, txPlain (t := mkTx now x x.args.l false)⟩

end Go.Proofs.YtfhflogbffibiaaGreat
