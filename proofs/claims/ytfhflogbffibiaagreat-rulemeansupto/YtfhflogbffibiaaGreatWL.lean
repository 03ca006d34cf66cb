/-
  Walk of the law's function RuleMeans.
-/
import Derived.Test.YtfhflogbffibiaaGreatWK
import Derived.Test.YtfhflogbffibiaaGreatA18
namespace Go.Proofs.YtfhflogbffibiaaGreat
open Go
set_option linter.unusedVariables false
set_option linter.unusedSimpArgs false

section
variable {base : Nat} {k : List KI} {s : St} {cx : Nat} {wr : Bool} {Q : Ex → St → Nat → Bool → Prop} {d : Option Nat}
theorem run_dops_gt {dyn : List (Nat × Nat)} {c0 i t : Nat} {p : Bool} {op : LOp} {rs : List LOpr} {ts : List (List Nat)} (h : s.fr t = .bool p) : Run base (.dops dyn c0 i (⟨d, op, some (t, p)⟩ :: rs) ts :: k) s cx wr Q ↔ Run base (.dops dyn c0 i (⟨d, op, none⟩ :: rs) ts :: k) s cx wr Q := by
  refine WDs_cons.trans (Iff.trans ?_ WDs_cons.symm)
  rw [WOp_gb h, beq_self_eq_true, WIf_true, WOp_plain]
end

theorem pure18 : Pure 18 [] (.bool true) := by
  have h := awake18
  refine pure_true ?_
  generalize mF pures codes 3000 200 18 [] .leaf 0 = r at h ⊢
  exact h

def okC (a b c d : Int) : Int := if 1 ≤ a ∧ a ≤ 32 ∧ 1 ≤ b ∧ b ≤ 2 ∧ 4 ≤ c ∧ c ≤ 400 ∧ 60 ≤ d ∧ d ≤ 1000 ∧ 2 * c + d ≤ 1024 then 0 else 1

theorem txF_len (c : Cfg) (s : State) (now : Int) (x : Cmd) (l : List Int) (h : (txF c s now x).1 = some l) : l.length ≤ x.args.l.length + 1 := by
  unfold txF at h
  split at h
  · cases h
  · split at h
    · split at h
      · cases h
      · cases h; simp
    · split at h
      · split at h
        · cases h
        · cases h; simp
      · cases h; omega

theorem txT_same (c : Cfg) (s : State) (now : Int) (x : Cmd) (hx : x.args.l.length ≤ 1048576) : ∃ q m k ky nm al b b', txT now x (txF c s now x).1 true = ⟨q, m, k, ky, nm, ⟨al, b⟩, ⟨[], true⟩⟩ ∧ txT now x (txF c s now x).1 false = ⟨q, m, k, ky, nm, ⟨al, b'⟩, ⟨[], true⟩⟩ ∧ al.length ≤ 1073741824 := by
  cases h : (txF c s now x).1 with
  | none => exact ⟨_, _, _, _, _, _, _, _, rfl, rfl, by simp⟩
  | some l =>
    have := txF_len c s now x l h
    exact ⟨_, _, _, _, _, _, _, _, rfl, rfl, by omega⟩

/-- RuleMeans answers yes. -/
theorem fn5 (c : Cfg) (s : State) (now : Int) (x : Cmd) (hr : s.rates.l.length ≤ 1073741824) (hj : s.jobs.l.length ≤ 1073741824) (hx : x.args.l.length ≤ 1048576) :
    Fn 5 [.agg c.cells, .agg s.cells, .int .i64 now, .agg x.cells] noH 0 fun o => o.v = .bool true := by
  refine fn_run g5 rfl (Nat.le_of_ble_eq_true rfl) ?_
  dsimp only [k5, c5]
  obtain ⟨b, hb, -⟩ := may21 s
  have p18 := pure18
  have p19 := pure19 c.nodes c.mode c.slot c.log
  have p20 := pure20 c.nodes c.mode c.slot c.log
  have p21 := pure21 c s now x hr hj (by omega)
  have p22 := pure22 c s now x hr hj (by omega)
  obtain ⟨q, m, k, ky, nm, al, b1, b2, t1, t2, hal⟩ := txT_same c s now x hx
  rw [t1] at p21
  rw [t2] at p22
  have p12 := pure12 q m k ky nm al [] b1 b2 true true hal (by simp)
  have qt1 := @plain_tx ⟨q, m, k, ky, nm, ⟨al, b1⟩, ⟨[], true⟩⟩
  have qt2 := @plain_tx ⟨q, m, k, ky, nm, ⟨al, b2⟩, ⟨[], true⟩⟩
  simp only [S0, S1, S2, S3, S4, S5, isnilV, Nat.reduceLT, updH, LA.ev, initA, evs, convV, faV, nckV, extV, stV, ldV, cellsAt, HO.cells, HO.wr, rdCells, wrCells, AV.cells, fillV, partsV, binV, intBin, unV, mmL, mmV, lenV, capV, Nat.reduceAdd, Nat.reduceEqDiff, Nat.reduceLeDiff, Nat.reduceMul, Nat.reduceSub, Nat.le_refl, reduceCtorEq, reduceIte, resV, retV, Ex.done, noH, implies_true, imp_self, forall_const, Nat.not_lt_zero, Int.reduceLT, Int.reduceLE, Cfg.cells, State.cells, Cmd.cells]
  have qs := @plain_state s
  have qc := @plain_cfg c
  have qx := @plain_cmd x
  simp only [State.cells, Cfg.cells, Cmd.cells] at hb qs qc qx p21 p22
  simp only [Tx.cells, List.map_nil] at p21 p22 p12 qt1 qt2
  have qc' : [AV.agg [.int .i64 c.nodes, .int .i64 c.mode, .int .i64 c.slot, .int .i64 c.log]].all (AV.plainN depth) = true := rfl
  rw [run_pure hb rfl (by simp only [List.all_cons, List.all_nil, Bool.and_true, qs])]
  cases b
  · simp only [S0, S1, S2, S3, S4, S5, isnilV, Nat.reduceLT, updH, LA.ev, initA, evs, convV, faV, nckV, extV, stV, ldV, cellsAt, HO.cells, HO.wr, rdCells, wrCells, AV.cells, fillV, partsV, binV, intBin, unV, mmL, mmV, lenV, capV, Nat.reduceAdd, Nat.reduceEqDiff, Nat.reduceLeDiff, Nat.reduceMul, Nat.reduceSub, Nat.le_refl, reduceCtorEq, reduceIte, resV, retV, Ex.done, noH, implies_true, imp_self, forall_const, Nat.not_lt_zero, Int.reduceLT, Int.reduceLE]
    rw [run_pure p18 rfl rfl]
    simp only [S0, S1, S2, S3, S4, S5, isnilV, Nat.reduceLT, updH, LA.ev, initA, evs, convV, faV, nckV, extV, stV, ldV, cellsAt, HO.cells, HO.wr, rdCells, wrCells, AV.cells, fillV, partsV, binV, intBin, unV, mmL, mmV, lenV, capV, Nat.reduceAdd, Nat.reduceEqDiff, Nat.reduceLeDiff, Nat.reduceMul, Nat.reduceSub, Nat.le_refl, reduceCtorEq, reduceIte, resV, retV, Ex.done, noH, implies_true, imp_self, forall_const, Nat.not_lt_zero, Int.reduceLT, Int.reduceLE]
    rw [run_dops_gt rfl]
    simp only [S0, S1, S2, S3, S4, S5, isnilV, Nat.reduceLT, updH, LA.ev, initA, evs, convV, faV, nckV, extV, stV, ldV, cellsAt, HO.cells, HO.wr, rdCells, wrCells, AV.cells, fillV, partsV, binV, intBin, unV, mmL, mmV, lenV, capV, Nat.reduceAdd, Nat.reduceEqDiff, Nat.reduceLeDiff, Nat.reduceMul, Nat.reduceSub, Nat.le_refl, reduceCtorEq, reduceIte, resV, retV, Ex.done, noH, implies_true, imp_self, forall_const, Nat.not_lt_zero, Int.reduceLT, Int.reduceLE]
    rw [run_pure_kc p19 rfl qc']
    simp only [S0, S1, S2, S3, S4, S5, isnilV, Nat.reduceLT, updH, LA.ev, initA, evs, convV, faV, nckV, extV, stV, ldV, cellsAt, HO.cells, HO.wr, rdCells, wrCells, AV.cells, fillV, partsV, binV, intBin, unV, mmL, mmV, lenV, capV, Nat.reduceAdd, Nat.reduceEqDiff, Nat.reduceLeDiff, Nat.reduceMul, Nat.reduceSub, Nat.le_refl, reduceCtorEq, reduceIte, resV, retV, Ex.done, noH, implies_true, imp_self, forall_const, Nat.not_lt_zero, Int.reduceLT, Int.reduceLE]
    rw [run_pure p20 rfl qc']
    simp only [S0, S1, S2, S3, S4, S5, isnilV, Nat.reduceLT, updH, LA.ev, initA, evs, convV, faV, nckV, extV, stV, ldV, cellsAt, HO.cells, HO.wr, rdCells, wrCells, AV.cells, fillV, partsV, binV, intBin, unV, mmL, mmV, lenV, capV, Nat.reduceAdd, Nat.reduceEqDiff, Nat.reduceLeDiff, Nat.reduceMul, Nat.reduceSub, Nat.le_refl, reduceCtorEq, reduceIte, resV, retV, Ex.done, noH, implies_true, imp_self, forall_const, Nat.not_lt_zero, Int.reduceLT, Int.reduceLE]
  · simp only [S0, S1, S2, S3, S4, S5, isnilV, Nat.reduceLT, updH, LA.ev, initA, evs, convV, faV, nckV, extV, stV, ldV, cellsAt, HO.cells, HO.wr, rdCells, wrCells, AV.cells, fillV, partsV, binV, intBin, unV, mmL, mmV, lenV, capV, Nat.reduceAdd, Nat.reduceEqDiff, Nat.reduceLeDiff, Nat.reduceMul, Nat.reduceSub, Nat.le_refl, reduceCtorEq, reduceIte, resV, retV, Ex.done, noH, implies_true, imp_self, forall_const, Nat.not_lt_zero, Int.reduceLT, Int.reduceLE]
    refine run_gdf (fun e1 => ?_) (fun e1 => ?_)
    · simp only [S0, S1, S2, S3, S4, S5, isnilV, Nat.reduceLT, updH, LA.ev, initA, evs, convV, faV, nckV, extV, stV, ldV, cellsAt, HO.cells, HO.wr, rdCells, wrCells, AV.cells, fillV, partsV, binV, intBin, unV, mmL, mmV, lenV, capV, Nat.reduceAdd, Nat.reduceEqDiff, Nat.reduceLeDiff, Nat.reduceMul, Nat.reduceSub, Nat.le_refl, reduceCtorEq, reduceIte, resV, retV, Ex.done, noH, implies_true, imp_self, forall_const, Nat.not_lt_zero, Int.reduceLT, Int.reduceLE, e1]
      refine run_sel (fun e2 => ?_) (fun e2 => ?_)
      · simp only [S0, S1, S2, S3, S4, S5, isnilV, Nat.reduceLT, updH, LA.ev, initA, evs, convV, faV, nckV, extV, stV, ldV, cellsAt, HO.cells, HO.wr, rdCells, wrCells, AV.cells, fillV, partsV, binV, intBin, unV, mmL, mmV, lenV, capV, Nat.reduceAdd, Nat.reduceEqDiff, Nat.reduceLeDiff, Nat.reduceMul, Nat.reduceSub, Nat.le_refl, reduceCtorEq, reduceIte, resV, retV, Ex.done, noH, implies_true, imp_self, forall_const, Nat.not_lt_zero, Int.reduceLT, Int.reduceLE]
        rw [run_pure p18 rfl rfl]
        simp only [S0, S1, S2, S3, S4, S5, isnilV, Nat.reduceLT, updH, LA.ev, initA, evs, convV, faV, nckV, extV, stV, ldV, cellsAt, HO.cells, HO.wr, rdCells, wrCells, AV.cells, fillV, partsV, binV, intBin, unV, mmL, mmV, lenV, capV, Nat.reduceAdd, Nat.reduceEqDiff, Nat.reduceLeDiff, Nat.reduceMul, Nat.reduceSub, Nat.le_refl, reduceCtorEq, reduceIte, resV, retV, Ex.done, noH, implies_true, imp_self, forall_const, Nat.not_lt_zero, Int.reduceLT, Int.reduceLE]
        rw [run_dops_gt rfl]
        simp only [S0, S1, S2, S3, S4, S5, isnilV, Nat.reduceLT, updH, LA.ev, initA, evs, convV, faV, nckV, extV, stV, ldV, cellsAt, HO.cells, HO.wr, rdCells, wrCells, AV.cells, fillV, partsV, binV, intBin, unV, mmL, mmV, lenV, capV, Nat.reduceAdd, Nat.reduceEqDiff, Nat.reduceLeDiff, Nat.reduceMul, Nat.reduceSub, Nat.le_refl, reduceCtorEq, reduceIte, resV, retV, Ex.done, noH, implies_true, imp_self, forall_const, Nat.not_lt_zero, Int.reduceLT, Int.reduceLE]
        rw [run_pure_kc p19 rfl qc']
        simp only [S0, S1, S2, S3, S4, S5, isnilV, Nat.reduceLT, updH, LA.ev, initA, evs, convV, faV, nckV, extV, stV, ldV, cellsAt, HO.cells, HO.wr, rdCells, wrCells, AV.cells, fillV, partsV, binV, intBin, unV, mmL, mmV, lenV, capV, Nat.reduceAdd, Nat.reduceEqDiff, Nat.reduceLeDiff, Nat.reduceMul, Nat.reduceSub, Nat.le_refl, reduceCtorEq, reduceIte, resV, retV, Ex.done, noH, implies_true, imp_self, forall_const, Nat.not_lt_zero, Int.reduceLT, Int.reduceLE]
        rw [run_pure p20 rfl qc']
        simp only [S0, S1, S2, S3, S4, S5, isnilV, Nat.reduceLT, updH, LA.ev, initA, evs, convV, faV, nckV, extV, stV, ldV, cellsAt, HO.cells, HO.wr, rdCells, wrCells, AV.cells, fillV, partsV, binV, intBin, unV, mmL, mmV, lenV, capV, Nat.reduceAdd, Nat.reduceEqDiff, Nat.reduceLeDiff, Nat.reduceMul, Nat.reduceSub, Nat.le_refl, reduceCtorEq, reduceIte, resV, retV, Ex.done, noH, implies_true, imp_self, forall_const, Nat.not_lt_zero, Int.reduceLT, Int.reduceLE]
      · simp only [S0, S1, S2, S3, S4, S5, isnilV, Nat.reduceLT, updH, LA.ev, initA, evs, convV, faV, nckV, extV, stV, ldV, cellsAt, HO.cells, HO.wr, rdCells, wrCells, AV.cells, fillV, partsV, binV, intBin, unV, mmL, mmV, lenV, capV, Nat.reduceAdd, Nat.reduceEqDiff, Nat.reduceLeDiff, Nat.reduceMul, Nat.reduceSub, Nat.le_refl, reduceCtorEq, reduceIte, resV, retV, Ex.done, noH, implies_true, imp_self, forall_const, Nat.not_lt_zero, Int.reduceLT, Int.reduceLE, Cfg.cells, State.cells, Cmd.cells]
        rw [run_pure p21 rfl (by simp only [List.all_cons, List.all_nil, Bool.and_true, qs, qc, qx]; rfl)]
        simp only [S0, S1, S2, S3, S4, S5, isnilV, Nat.reduceLT, updH, LA.ev, initA, evs, convV, faV, nckV, extV, stV, ldV, cellsAt, HO.cells, HO.wr, rdCells, wrCells, AV.cells, fillV, partsV, binV, intBin, unV, mmL, mmV, lenV, capV, Nat.reduceAdd, Nat.reduceEqDiff, Nat.reduceLeDiff, Nat.reduceMul, Nat.reduceSub, Nat.le_refl, reduceCtorEq, reduceIte, resV, retV, Ex.done, noH, implies_true, imp_self, forall_const, Nat.not_lt_zero, Int.reduceLT, Int.reduceLE]
        rw [run_pure p22 rfl (by simp only [List.all_cons, List.all_nil, Bool.and_true, qs, qc, qx]; rfl)]
        simp only [S0, S1, S2, S3, S4, S5, isnilV, Nat.reduceLT, updH, LA.ev, initA, evs, convV, faV, nckV, extV, stV, ldV, cellsAt, HO.cells, HO.wr, rdCells, wrCells, AV.cells, fillV, partsV, binV, intBin, unV, mmL, mmV, lenV, capV, Nat.reduceAdd, Nat.reduceEqDiff, Nat.reduceLeDiff, Nat.reduceMul, Nat.reduceSub, Nat.le_refl, reduceCtorEq, reduceIte, resV, retV, Ex.done, noH, implies_true, imp_self, forall_const, Nat.not_lt_zero, Int.reduceLT, Int.reduceLE]
        rw [run_pure p18 rfl rfl]
        simp only [S0, S1, S2, S3, S4, S5, isnilV, Nat.reduceLT, updH, LA.ev, initA, evs, convV, faV, nckV, extV, stV, ldV, cellsAt, HO.cells, HO.wr, rdCells, wrCells, AV.cells, fillV, partsV, binV, intBin, unV, mmL, mmV, lenV, capV, Nat.reduceAdd, Nat.reduceEqDiff, Nat.reduceLeDiff, Nat.reduceMul, Nat.reduceSub, Nat.le_refl, reduceCtorEq, reduceIte, resV, retV, Ex.done, noH, implies_true, imp_self, forall_const, Nat.not_lt_zero, Int.reduceLT, Int.reduceLE]
        rw [run_pure p12 rfl (by simp only [List.all_cons, List.all_nil, Bool.and_true, qt1, qt2])]
        simp only [S0, S1, S2, S3, S4, S5, isnilV, Nat.reduceLT, updH, LA.ev, initA, evs, convV, faV, nckV, extV, stV, ldV, cellsAt, HO.cells, HO.wr, rdCells, wrCells, AV.cells, fillV, partsV, binV, intBin, unV, mmL, mmV, lenV, capV, Nat.reduceAdd, Nat.reduceEqDiff, Nat.reduceLeDiff, Nat.reduceMul, Nat.reduceSub, Nat.le_refl, reduceCtorEq, reduceIte, resV, retV, Ex.done, noH, implies_true, imp_self, forall_const, Nat.not_lt_zero, Int.reduceLT, Int.reduceLE]
        rw [run_dops_gt rfl]
        simp only [S0, S1, S2, S3, S4, S5, isnilV, Nat.reduceLT, updH, LA.ev, initA, evs, convV, faV, nckV, extV, stV, ldV, cellsAt, HO.cells, HO.wr, rdCells, wrCells, AV.cells, fillV, partsV, binV, intBin, unV, mmL, mmV, lenV, capV, Nat.reduceAdd, Nat.reduceEqDiff, Nat.reduceLeDiff, Nat.reduceMul, Nat.reduceSub, Nat.le_refl, reduceCtorEq, reduceIte, resV, retV, Ex.done, noH, implies_true, imp_self, forall_const, Nat.not_lt_zero, Int.reduceLT, Int.reduceLE]
        rw [run_pure_kc p19 rfl qc']
        simp only [S0, S1, S2, S3, S4, S5, isnilV, Nat.reduceLT, updH, LA.ev, initA, evs, convV, faV, nckV, extV, stV, ldV, cellsAt, HO.cells, HO.wr, rdCells, wrCells, AV.cells, fillV, partsV, binV, intBin, unV, mmL, mmV, lenV, capV, Nat.reduceAdd, Nat.reduceEqDiff, Nat.reduceLeDiff, Nat.reduceMul, Nat.reduceSub, Nat.le_refl, reduceCtorEq, reduceIte, resV, retV, Ex.done, noH, implies_true, imp_self, forall_const, Nat.not_lt_zero, Int.reduceLT, Int.reduceLE]
        rw [run_pure p20 rfl qc']
        simp only [S0, S1, S2, S3, S4, S5, isnilV, Nat.reduceLT, updH, LA.ev, initA, evs, convV, faV, nckV, extV, stV, ldV, cellsAt, HO.cells, HO.wr, rdCells, wrCells, AV.cells, fillV, partsV, binV, intBin, unV, mmL, mmV, lenV, capV, Nat.reduceAdd, Nat.reduceEqDiff, Nat.reduceLeDiff, Nat.reduceMul, Nat.reduceSub, Nat.le_refl, reduceCtorEq, reduceIte, resV, retV, Ex.done, noH, implies_true, imp_self, forall_const, Nat.not_lt_zero, Int.reduceLT, Int.reduceLE]
    · simp only [S0, S1, S2, S3, S4, S5, isnilV, Nat.reduceLT, updH, LA.ev, initA, evs, convV, faV, nckV, extV, stV, ldV, cellsAt, HO.cells, HO.wr, rdCells, wrCells, AV.cells, fillV, partsV, binV, intBin, unV, mmL, mmV, lenV, capV, Nat.reduceAdd, Nat.reduceEqDiff, Nat.reduceLeDiff, Nat.reduceMul, Nat.reduceSub, Nat.le_refl, reduceCtorEq, reduceIte, resV, retV, Ex.done, noH, implies_true, imp_self, forall_const, Nat.not_lt_zero, Int.reduceLT, Int.reduceLE, e1]
      rw [run_pure p18 rfl rfl]
      simp only [S0, S1, S2, S3, S4, S5, isnilV, Nat.reduceLT, updH, LA.ev, initA, evs, convV, faV, nckV, extV, stV, ldV, cellsAt, HO.cells, HO.wr, rdCells, wrCells, AV.cells, fillV, partsV, binV, intBin, unV, mmL, mmV, lenV, capV, Nat.reduceAdd, Nat.reduceEqDiff, Nat.reduceLeDiff, Nat.reduceMul, Nat.reduceSub, Nat.le_refl, reduceCtorEq, reduceIte, resV, retV, Ex.done, noH, implies_true, imp_self, forall_const, Nat.not_lt_zero, Int.reduceLT, Int.reduceLE]
      rw [run_dops_gt rfl]
      simp only [S0, S1, S2, S3, S4, S5, isnilV, Nat.reduceLT, updH, LA.ev, initA, evs, convV, faV, nckV, extV, stV, ldV, cellsAt, HO.cells, HO.wr, rdCells, wrCells, AV.cells, fillV, partsV, binV, intBin, unV, mmL, mmV, lenV, capV, Nat.reduceAdd, Nat.reduceEqDiff, Nat.reduceLeDiff, Nat.reduceMul, Nat.reduceSub, Nat.le_refl, reduceCtorEq, reduceIte, resV, retV, Ex.done, noH, implies_true, imp_self, forall_const, Nat.not_lt_zero, Int.reduceLT, Int.reduceLE]
      rw [run_pure_kc p19 rfl qc']
      simp only [S0, S1, S2, S3, S4, S5, isnilV, Nat.reduceLT, updH, LA.ev, initA, evs, convV, faV, nckV, extV, stV, ldV, cellsAt, HO.cells, HO.wr, rdCells, wrCells, AV.cells, fillV, partsV, binV, intBin, unV, mmL, mmV, lenV, capV, Nat.reduceAdd, Nat.reduceEqDiff, Nat.reduceLeDiff, Nat.reduceMul, Nat.reduceSub, Nat.le_refl, reduceCtorEq, reduceIte, resV, retV, Ex.done, noH, implies_true, imp_self, forall_const, Nat.not_lt_zero, Int.reduceLT, Int.reduceLE]
      rw [run_pure p20 rfl qc']
      simp only [S0, S1, S2, S3, S4, S5, isnilV, Nat.reduceLT, updH, LA.ev, initA, evs, convV, faV, nckV, extV, stV, ldV, cellsAt, HO.cells, HO.wr, rdCells, wrCells, AV.cells, fillV, partsV, binV, intBin, unV, mmL, mmV, lenV, capV, Nat.reduceAdd, Nat.reduceEqDiff, Nat.reduceLeDiff, Nat.reduceMul, Nat.reduceSub, Nat.le_refl, reduceCtorEq, reduceIte, resV, retV, Ex.done, noH, implies_true, imp_self, forall_const, Nat.not_lt_zero, Int.reduceLT, Int.reduceLE]

end Go.Proofs.YtfhflogbffibiaaGreat
