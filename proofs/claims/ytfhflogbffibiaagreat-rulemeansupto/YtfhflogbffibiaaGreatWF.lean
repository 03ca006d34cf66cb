/-
  Walks: rule's and the reference's parts of Tx.
-/
import Derived.Test.YtfhflogbffibiaaGreatWE
namespace Go.Proofs.YtfhflogbffibiaaGreat
open Go
set_option linter.unusedVariables false
set_option linter.unusedSimpArgs false

/-- ref21.Check -/
theorem pure20 (a b c d : Int) : Pure 20 [.agg [.int .i64 a, .int .i64 b, .int .i64 c, .int .i64 d]] (.int .i64 (if 1 ≤ a ∧ a ≤ 32 ∧ 1 ≤ b ∧ b ≤ 2 ∧ 4 ≤ c ∧ c ≤ 400 ∧ 60 ≤ d ∧ d ≤ 1000 ∧ 2 * c + d ≤ 1024 then 0 else 1)) := by
  refine .of_plain rfl (fn_run g20 rfl (Nat.le_of_ble_eq_true rfl) ?_)
  dsimp only [k20, c20]
  simp only [S0, S1, S2, S3, S4, S5, isnilV, Nat.reduceLT, updH, LA.ev, initA, evs, convV, faV, nckV, extV, stV, ldV, cellsAt, HO.cells, HO.wr, rdCells, wrCells, AV.cells, fillV, partsV, binV, intBin, unV, mmL, mmV, lenV, capV, Nat.reduceAdd, Nat.reduceEqDiff, Nat.reduceLeDiff, Nat.reduceMul, Nat.reduceSub, Nat.le_refl, reduceCtorEq, reduceIte, resV, retV, Ex.done, noH, implies_true, imp_self, forall_const, Nat.not_lt_zero, Int.reduceLT, Int.reduceLE]
  repeat' (first | refine run_gdt (fun h => ?_) (fun h => ?_) <;> simp only [S0, S1, S2, S3, S4, S5, isnilV, Nat.reduceLT, updH, LA.ev, initA, evs, convV, faV, nckV, extV, stV, ldV, cellsAt, HO.cells, HO.wr, rdCells, wrCells, AV.cells, fillV, partsV, binV, intBin, unV, mmL, mmV, lenV, capV, Nat.reduceAdd, Nat.reduceEqDiff, Nat.reduceLeDiff, Nat.reduceMul, Nat.reduceSub, Nat.le_refl, reduceCtorEq, reduceIte, resV, retV, Ex.done, noH, implies_true, imp_self, forall_const, Nat.not_lt_zero, Int.reduceLT, Int.reduceLE, h] | refine run_gdf (fun h => ?_) (fun h => ?_) <;> simp only [S0, S1, S2, S3, S4, S5, isnilV, Nat.reduceLT, updH, LA.ev, initA, evs, convV, faV, nckV, extV, stV, ldV, cellsAt, HO.cells, HO.wr, rdCells, wrCells, AV.cells, fillV, partsV, binV, intBin, unV, mmL, mmV, lenV, capV, Nat.reduceAdd, Nat.reduceEqDiff, Nat.reduceLeDiff, Nat.reduceMul, Nat.reduceSub, Nat.le_refl, reduceCtorEq, reduceIte, resV, retV, Ex.done, noH, implies_true, imp_self, forall_const, Nat.not_lt_zero, Int.reduceLT, Int.reduceLE, h] | refine run_sel (fun h => ?_) (fun h => ?_) <;> simp only [S0, S1, S2, S3, S4, S5, isnilV, Nat.reduceLT, updH, LA.ev, initA, evs, convV, faV, nckV, extV, stV, ldV, cellsAt, HO.cells, HO.wr, rdCells, wrCells, AV.cells, fillV, partsV, binV, intBin, unV, mmL, mmV, lenV, capV, Nat.reduceAdd, Nat.reduceEqDiff, Nat.reduceLeDiff, Nat.reduceMul, Nat.reduceSub, Nat.le_refl, reduceCtorEq, reduceIte, resV, retV, Ex.done, noH, implies_true, imp_self, forall_const, Nat.not_lt_zero, Int.reduceLT, Int.reduceLE, h])
  all_goals (simp [wrap64] at * <;> omega)

def argsL : List Int := [-1, 2, 4, 2, 2, 3, 3, 5, 1, 1, 1, 1, 1, 2]
def argsN (kind : Int) : Int := if 1 ≤ kind ∧ kind ≤ 13 then argsL.getD kind.toNat 0 else -1

/-- rule.args -/
theorem pure61 (kind : Int) : Pure 61 [.int .i64 kind] (.int .i64 (argsN kind)) := by
  refine .of_plain rfl (fn_run g61 rfl (Nat.le_of_ble_eq_true rfl) ?_)
  dsimp only [k61, c61]
  simp only [S0, S1, S2, S3, S4, S5, isnilV, Nat.reduceLT, updH, LA.ev, initA, evs, convV, faV, nckV, extV, stV, ldV, cellsAt, HO.cells, HO.wr, rdCells, wrCells, AV.cells, fillV, partsV, binV, intBin, unV, mmL, mmV, lenV, capV, Nat.reduceAdd, Nat.reduceEqDiff, Nat.reduceLeDiff, Nat.reduceMul, Nat.reduceSub, Nat.le_refl, reduceCtorEq, reduceIte, resV, retV, Ex.done, noH, implies_true, imp_self, forall_const, Nat.not_lt_zero, Int.reduceLT, Int.reduceLE, call58]
  refine run_sel (fun h => ?_) (fun h => ?_)
  · simp only [S0, S1, S2, S3, S4, S5, isnilV, Nat.reduceLT, updH, LA.ev, initA, evs, convV, faV, nckV, extV, stV, ldV, cellsAt, HO.cells, HO.wr, rdCells, wrCells, AV.cells, fillV, partsV, binV, intBin, unV, mmL, mmV, lenV, capV, Nat.reduceAdd, Nat.reduceEqDiff, Nat.reduceLeDiff, Nat.reduceMul, Nat.reduceSub, Nat.le_refl, reduceCtorEq, reduceIte, resV, retV, Ex.done, noH, implies_true, imp_self, forall_const, Nat.not_lt_zero, Int.reduceLT, Int.reduceLE, h]
    simp [wrap64] at h
    simp [argsN]; omega
  · have hk : 1 ≤ kind ∧ kind ≤ 13 := by simpa [wrap64] using h
    simp only [S0, S1, S2, S3, S4, S5, isnilV, Nat.reduceLT, updH, LA.ev, initA, evs, convV, faV, nckV, extV, stV, ldV, cellsAt, HO.cells, HO.wr, rdCells, wrCells, AV.cells, fillV, partsV, binV, intBin, unV, mmL, mmV, lenV, capV, Nat.reduceAdd, Nat.reduceEqDiff, Nat.reduceLeDiff, Nat.reduceMul, Nat.reduceSub, Nat.le_refl, reduceCtorEq, reduceIte, resV, retV, Ex.done, noH, implies_true, imp_self, forall_const, Nat.not_lt_zero, Int.reduceLT, Int.reduceLE, h]
    rw [ix_int (by omega) (by simp; omega)]
    have : kind = 1 ∨ kind = 2 ∨ kind = 3 ∨ kind = 4 ∨ kind = 5 ∨ kind = 6 ∨ kind = 7 ∨ kind = 8 ∨ kind = 9 ∨ kind = 10 ∨ kind = 11 ∨ kind = 12 ∨ kind = 13 := by omega
    rcases this with rfl | rfl | rfl | rfl | rfl | rfl | rfl | rfl | rfl | rfl | rfl | rfl | rfl
    all_goals
      simp only [S0, S1, S2, S3, S4, S5, isnilV, Nat.reduceLT, updH, LA.ev, initA, evs, convV, faV, nckV, extV, stV, ldV, cellsAt, HO.cells, HO.wr, rdCells, wrCells, AV.cells, fillV, partsV, binV, intBin, unV, mmL, mmV, lenV, capV, Nat.reduceAdd, Nat.reduceEqDiff, Nat.reduceLeDiff, Nat.reduceMul, Nat.reduceSub, Nat.le_refl, reduceCtorEq, reduceIte, resV, retV, Ex.done, noH, implies_true, imp_self, forall_const, Nat.not_lt_zero, Int.reduceLT, Int.reduceLE, List.getD_cons_succ, List.getD_cons_zero, Int.reduceToNat]
      rfl

def priceR (c : Cfg) (s : State) (now : Int) (args : List Int) : Int × Int := if args.getD 1 0 > c.nodes then (0, 13) else ((priceF s.rates.l (args.getD 3 0) now).1.price, (priceF s.rates.l (args.getD 3 0) now).2)

/-- rule.price -/
theorem pure62 (c : Cfg) (s : State) (now : Int) (args : List Int) (ac : Bool) (hl : 5 ≤ args.length) (hr : s.rates.l.length ≤ 1073741824) : Pure 62 [.agg c.cells, .agg s.cells, .int .i64 now, .ro 1 (args.map intC) ac]
    (.tup [.int .i64 (priceR c s now args).1, .int .i64 (priceR c s now args).2]) := by
  refine .of_plain rfl (fn_run g62 rfl (Nat.le_of_ble_eq_true rfl) ?_)
  dsimp only [k62, c62]
  have i1 := ixI1 (l := args) (c := ac) (k := .i64) (by omega)
  have i3 := ixI3 (l := args) (c := ac) (k := .i64) (by omega)
  simp only [S0, S1, S2, S3, S4, S5, isnilV, Nat.reduceLT, updH, LA.ev, initA, evs, convV, faV, nckV, extV, stV, ldV, cellsAt, HO.cells, HO.wr, rdCells, wrCells, AV.cells, fillV, partsV, binV, intBin, unV, mmL, mmV, lenV, capV, Nat.reduceAdd, Nat.reduceEqDiff, Nat.reduceLeDiff, Nat.reduceMul, Nat.reduceSub, Nat.le_refl, reduceCtorEq, reduceIte, resV, retV, Ex.done, noH, implies_true, imp_self, forall_const, Nat.not_lt_zero, Int.reduceLT, Int.reduceLE, Cfg.cells, State.cells, i1]
  refine run_sel (fun h => ?_) (fun h => ?_)
  · simp only [S0, S1, S2, S3, S4, S5, isnilV, Nat.reduceLT, updH, LA.ev, initA, evs, convV, faV, nckV, extV, stV, ldV, cellsAt, HO.cells, HO.wr, rdCells, wrCells, AV.cells, fillV, partsV, binV, intBin, unV, mmL, mmV, lenV, capV, Nat.reduceAdd, Nat.reduceEqDiff, Nat.reduceLeDiff, Nat.reduceMul, Nat.reduceSub, Nat.le_refl, reduceCtorEq, reduceIte, resV, retV, Ex.done, noH, implies_true, imp_self, forall_const, Nat.not_lt_zero, Int.reduceLT, Int.reduceLE, h]
    simp only [priceR, if_pos (of_decide_eq_true h)]
  · simp only [S0, S1, S2, S3, S4, S5, isnilV, Nat.reduceLT, updH, LA.ev, initA, evs, convV, faV, nckV, extV, stV, ldV, cellsAt, HO.cells, HO.wr, rdCells, wrCells, AV.cells, fillV, partsV, binV, intBin, unV, mmL, mmV, lenV, capV, Nat.reduceAdd, Nat.reduceEqDiff, Nat.reduceLeDiff, Nat.reduceMul, Nat.reduceSub, Nat.le_refl, reduceCtorEq, reduceIte, resV, retV, Ex.done, noH, implies_true, imp_self, forall_const, Nat.not_lt_zero, Int.reduceLT, Int.reduceLE, h, i3, call107 hr]
    simp only [priceR, if_neg (of_decide_eq_false h)]

theorem call61 {kind : Int} {strict : Bool} {base cx : Nat} {s : St} {d : Option Nat} {k : List KI} {wr : Bool} {Q : Ex → St → Nat → Bool → Prop} : Run base (.call strict 61 [.int .i64 kind] d :: k) s cx wr Q ↔ Run base k ⟨updF s.fr d (.int .i64 (argsN kind)), s.H⟩ cx wr Q := run_pure (pure61 kind) rfl rfl

/-- Ticks of a job that ends now. -/
def usedF (jobs : List Job) (now id : Int) : Int × Int :=
  match jobs.findIdx? (fun j => j.id == id) with
  | none => (0, 4)
  | some i => match jobs[i]? with
    | none => (0, 4)
    | some j => if j.state ≠ 3 then (0, 9) else
      let u := IntKind.i64.wrap (now - j.start)
      let m := if j.wall < u then j.wall else u
      (if m > 0 then m else 0, 0)

/-- rule.used -/
theorem pure63 (s : State) (now id : Int) (hl : s.jobs.l.length ≤ 1073741824) : Pure 63 [.agg s.cells, .int .i64 now, .int .i64 id] (.tup [.int .i64 (usedF s.jobs.l now id).1, .int .i64 (usedF s.jobs.l now id).2]) := by
  refine .of_plain rfl (fn_run g63 rfl (Nat.le_of_ble_eq_true rfl) ?_)
  dsimp only [k63, c63]
  cases hf : s.jobs.l.findIdx? (fun j => j.id == id) with
  | none =>
    have hi : idx (fun j => j.id == id) s.jobs.l = -1 := by simp only [idx, hf]
    simp only [S0, S1, S2, S3, S4, S5, isnilV, Nat.reduceLT, updH, LA.ev, initA, evs, convV, faV, nckV, extV, stV, ldV, cellsAt, HO.cells, HO.wr, rdCells, wrCells, AV.cells, fillV, partsV, binV, intBin, unV, mmL, mmV, lenV, capV, Nat.reduceAdd, Nat.reduceEqDiff, Nat.reduceLeDiff, Nat.reduceMul, Nat.reduceSub, Nat.le_refl, reduceCtorEq, reduceIte, resV, retV, Ex.done, noH, implies_true, imp_self, forall_const, Nat.not_lt_zero, Int.reduceLT, Int.reduceLE, State.cells, call67 hl, hi, Int.reduceNeg, Int.reduceLT, decide_true]
    simp only [usedF, hf]
  | some i =>
    have hi : idx (fun j => j.id == id) s.jobs.l = i := by simp only [idx, hf]
    obtain ⟨hlt, _, _⟩ := List.findIdx?_eq_some_iff_getElem.1 hf
    obtain ⟨r, hr⟩ : ∃ r, s.jobs.l[i] = r := ⟨_, rfl⟩
    have hn : decide ((i : Int) < 0) = false := decide_eq_false (by omega)
    have hu : s.jobs.l[i]? = some r := by rw [List.getElem?_eq_getElem hlt, hr]
    simp only [S0, S1, S2, S3, S4, S5, isnilV, Nat.reduceLT, updH, LA.ev, initA, evs, convV, faV, nckV, extV, stV, ldV, cellsAt, HO.cells, HO.wr, rdCells, wrCells, AV.cells, fillV, partsV, binV, intBin, unV, mmL, mmV, lenV, capV, Nat.reduceAdd, Nat.reduceEqDiff, Nat.reduceLeDiff, Nat.reduceMul, Nat.reduceSub, Nat.le_refl, reduceCtorEq, reduceIte, resV, retV, Ex.done, noH, implies_true, imp_self, forall_const, Nat.not_lt_zero, Int.reduceLT, Int.reduceLE, State.cells, call67 hl, hi, hn, hlt, hr, Job.cells]
    refine run_sel (fun h => ?_) (fun h => ?_)
    · simp only [S0, S1, S2, S3, S4, S5, isnilV, Nat.reduceLT, updH, LA.ev, initA, evs, convV, faV, nckV, extV, stV, ldV, cellsAt, HO.cells, HO.wr, rdCells, wrCells, AV.cells, fillV, partsV, binV, intBin, unV, mmL, mmV, lenV, capV, Nat.reduceAdd, Nat.reduceEqDiff, Nat.reduceLeDiff, Nat.reduceMul, Nat.reduceSub, Nat.le_refl, reduceCtorEq, reduceIte, resV, retV, Ex.done, noH, implies_true, imp_self, forall_const, Nat.not_lt_zero, Int.reduceLT, Int.reduceLE, h]
      simp only [usedF, hf, hu]
      rw [if_pos (c := r.state ≠ 3) (by simpa using h)]
    · simp only [S0, S1, S2, S3, S4, S5, isnilV, Nat.reduceLT, updH, LA.ev, initA, evs, convV, faV, nckV, extV, stV, ldV, cellsAt, HO.cells, HO.wr, rdCells, wrCells, AV.cells, fillV, partsV, binV, intBin, unV, mmL, mmV, lenV, capV, Nat.reduceAdd, Nat.reduceEqDiff, Nat.reduceLeDiff, Nat.reduceMul, Nat.reduceSub, Nat.le_refl, reduceCtorEq, reduceIte, resV, retV, Ex.done, noH, implies_true, imp_self, forall_const, Nat.not_lt_zero, Int.reduceLT, Int.reduceLE, h, hlt, hr, Job.cells]
      simp only [usedF, hf, hu]
      rw [if_neg (c := r.state ≠ 3) (by simpa using h)]

theorem call63 {s0 : State} {now id : Int} (hl : s0.jobs.l.length ≤ 1073741824) {strict : Bool} {base cx : Nat} {s : St} {d : Option Nat} {k : List KI} {wr : Bool} {Q : Ex → St → Nat → Bool → Prop} : Run base (.call strict 63 [.agg s0.cells, .int .i64 now, .int .i64 id] d :: k) s cx wr Q ↔
    Run base k ⟨updF s.fr d (.tup [.int .i64 (usedF s0.jobs.l now id).1, .int .i64 (usedF s0.jobs.l now id).2]), s.H⟩ cx wr Q :=
  run_pure (pure63 s0 now id hl) rfl (by simp only [List.all_cons, plain_state]; rfl)

/-- slices.Clip and slices.Clone, of numbers -/
theorem pure59 (l : List Int) (c : Bool) : Pure 59 [.ro 1 (l.map intC) c] (.ro 1 (l.map intC) true) := by
  refine .of_plain plain_ints (fn_run g59 rfl (Nat.le_of_ble_eq_true rfl) ?_)
  dsimp only [k59, c59]
  simp only [S0, S1, S2, S3, S4, S5, isnilV, Nat.reduceLT, updH, LA.ev, initA, evs, convV, faV, nckV, extV, stV, ldV, cellsAt, HO.cells, HO.wr, rdCells, wrCells, AV.cells, fillV, partsV, binV, intBin, unV, mmL, mmV, lenV, capV, Nat.reduceAdd, Nat.reduceEqDiff, Nat.reduceLeDiff, Nat.reduceMul, Nat.reduceSub, Nat.le_refl, reduceCtorEq, reduceIte, resV, retV, Ex.done, noH, implies_true, imp_self, forall_const, Nat.not_lt_zero, Int.reduceLT, Int.reduceLE]
  rw [slc_clip (by simp only [S0, S1, S2, S3, S4, S5, isnilV, Nat.reduceLT, updH, LA.ev, initA, evs, convV, faV, nckV, extV, stV, ldV, cellsAt, HO.cells, HO.wr, rdCells, wrCells, AV.cells, fillV, partsV, binV, intBin, unV, mmL, mmV, lenV, capV, Nat.reduceAdd, Nat.reduceEqDiff, Nat.reduceLeDiff, Nat.reduceMul, Nat.reduceSub, Nat.le_refl, reduceCtorEq, reduceIte, resV, retV, Ex.done, noH, implies_true, imp_self, forall_const, Nat.not_lt_zero, Int.reduceLT, Int.reduceLE]) (by simp only [S0, S1, S2, S3, S4, S5, isnilV, Nat.reduceLT, updH, LA.ev, initA, evs, convV, faV, nckV, extV, stV, ldV, cellsAt, HO.cells, HO.wr, rdCells, wrCells, AV.cells, fillV, partsV, binV, intBin, unV, mmL, mmV, lenV, capV, Nat.reduceAdd, Nat.reduceEqDiff, Nat.reduceLeDiff, Nat.reduceMul, Nat.reduceSub, Nat.le_refl, reduceCtorEq, reduceIte, resV, retV, Ex.done, noH, implies_true, imp_self, forall_const, Nat.not_lt_zero, Int.reduceLT, Int.reduceLE])]
  simp only [S0, S1, S2, S3, S4, S5, isnilV, Nat.reduceLT, updH, LA.ev, initA, evs, convV, faV, nckV, extV, stV, ldV, cellsAt, HO.cells, HO.wr, rdCells, wrCells, AV.cells, fillV, partsV, binV, intBin, unV, mmL, mmV, lenV, capV, Nat.reduceAdd, Nat.reduceEqDiff, Nat.reduceLeDiff, Nat.reduceMul, Nat.reduceSub, Nat.le_refl, reduceCtorEq, reduceIte, resV, retV, Ex.done, noH, implies_true, imp_self, forall_const, Nat.not_lt_zero, Int.reduceLT, Int.reduceLE]

theorem pure60 (l : List Int) (c : Bool) (hl : l.length ≤ 1073741824) : Pure 60 [.ro 1 (l.map intC) c] (.ro 1 (l.map intC) (l.isEmpty)) := by
  cases l with
  | nil => exact .of_plain rfl ⟨1, ⟨.ro 1 [] true, noH, 0, false⟩, by
      show aF pures codes 1 60 _ _ _ = _
      simp only [aF, g60]
      rfl, rfl⟩
  | cons n l =>
    refine fn_run g60 rfl (Nat.le_of_ble_eq_true rfl) ?_
    dsimp only [k60, c60]
    simp only [S0, S1, S2, S3, S4, S5, isnilV, Nat.reduceLT, updH, LA.ev, initA, evs, convV, faV, nckV, extV, stV, ldV, cellsAt, HO.cells, HO.wr, rdCells, wrCells, AV.cells, fillV, partsV, binV, intBin, unV, mmL, mmV, lenV, capV, Nat.reduceAdd, Nat.reduceEqDiff, Nat.reduceLeDiff, Nat.reduceMul, Nat.reduceSub, Nat.le_refl, reduceCtorEq, reduceIte, resV, retV, Ex.done, noH, implies_true, imp_self, forall_const, Nat.not_lt_zero, Int.reduceLT, Int.reduceLE]
    rw [app_new (by simp) rfl (by simp at hl ⊢; omega)]
    simp only [S0, S1, S2, S3, S4, S5, isnilV, Nat.reduceLT, updH, LA.ev, initA, evs, convV, faV, nckV, extV, stV, ldV, cellsAt, HO.cells, HO.wr, rdCells, wrCells, AV.cells, fillV, partsV, binV, intBin, unV, mmL, mmV, lenV, capV, Nat.reduceAdd, Nat.reduceEqDiff, Nat.reduceLeDiff, Nat.reduceMul, Nat.reduceSub, Nat.le_refl, reduceCtorEq, reduceIte, resV, retV, Ex.done, noH, implies_true, imp_self, forall_const, Nat.not_lt_zero, Int.reduceLT, Int.reduceLE]
    rw [freeze_gs (xs := (n :: l).map intC) (by simp only [S0, S1, S2, S3, S4, S5, isnilV, Nat.reduceLT, updH, LA.ev, initA, evs, convV, faV, nckV, extV, stV, ldV, cellsAt, HO.cells, HO.wr, rdCells, wrCells, AV.cells, fillV, partsV, binV, intBin, unV, mmL, mmV, lenV, capV, Nat.reduceAdd, Nat.reduceEqDiff, Nat.reduceLeDiff, Nat.reduceMul, Nat.reduceSub, Nat.le_refl, reduceCtorEq, reduceIte, resV, retV, Ex.done, noH, implies_true, imp_self, forall_const, Nat.not_lt_zero, Int.reduceLT, Int.reduceLE]) (by simp) (fun x hx => by obtain ⟨a, _, rfl⟩ := List.mem_map.1 hx; rfl)]
    exact ⟨rfl, plain_ints (l := n :: l)⟩

end Go.Proofs.YtfhflogbffibiaaGreat
