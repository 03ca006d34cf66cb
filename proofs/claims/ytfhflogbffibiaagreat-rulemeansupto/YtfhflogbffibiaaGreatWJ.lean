/-
  Walks: two transactions of the same content; may a state be?
-/
import Derived.Test.YtfhflogbffibiaaGreatWI
namespace Go.Proofs.YtfhflogbffibiaaGreat
open Go
set_option linter.unusedVariables false
set_option linter.unusedSimpArgs false

/-- ref12.Same, of one content -/
theorem pure12 (q m k : Int) (ky nm : ByteArray) (al : List Int) (ll : List Leg) (b b' c c' : Bool) (h1 : al.length ≤ 1073741824) (h2 : ll.length ≤ 1073741824) :
    Pure 12 [.agg (Tx.cells ⟨q, m, k, ky, nm, ⟨al, b⟩, ⟨ll, c⟩⟩), .agg (Tx.cells ⟨q, m, k, ky, nm, ⟨al, b'⟩, ⟨ll, c'⟩⟩)] (.bool true) := by
  refine .of_plain rfl (fn_run g12 rfl (Nat.le_of_ble_eq_true rfl) ?_)
  dsimp only [k12, c12]
  simp only [S0, S1, S2, S3, S4, S5, isnilV, Nat.reduceLT, updH, LA.ev, initA, evs, convV, faV, nckV, extV, stV, ldV, cellsAt, HO.cells, HO.wr, rdCells, wrCells, AV.cells, fillV, partsV, binV, intBin, unV, mmL, mmV, lenV, capV, Nat.reduceAdd, Nat.reduceEqDiff, Nat.reduceLeDiff, Nat.reduceMul, Nat.reduceSub, Nat.le_refl, reduceCtorEq, reduceIte, resV, retV, Ex.done, noH, implies_true, imp_self, forall_const, Nat.not_lt_zero, Int.reduceLT, Int.reduceLE, Tx.cells, bne_self_eq_false]
  refine run_while (fun n s cx wr => ∃ i : Nat, n = al.length - i ∧ i ≤ al.length ∧ s.fr 2 = .np 0 0 ∧ s.fr 3 = .np 1 0 ∧ s.fr 5 = .int .i64 i ∧ s.H 0 = some (.blk (Tx.cells ⟨q, m, k, ky, nm, ⟨al, b⟩, ⟨ll, c⟩⟩)) ∧ s.H 1 = some (.blk (Tx.cells ⟨q, m, k, ky, nm, ⟨al, b'⟩, ⟨ll, c'⟩⟩)) ∧ 2 ≤ cx) al.length ?_ ?_
  · refine ⟨0, by omega, by omega, ?_⟩
    simp only [S0, S1, S2, S3, S4, S5, isnilV, Nat.reduceLT, updH, LA.ev, initA, evs, convV, faV, nckV, extV, stV, ldV, cellsAt, HO.cells, HO.wr, rdCells, wrCells, AV.cells, fillV, partsV, binV, intBin, unV, mmL, mmV, lenV, capV, Nat.reduceAdd, Nat.reduceEqDiff, Nat.reduceLeDiff, Nat.reduceMul, Nat.reduceSub, Nat.le_refl, reduceCtorEq, reduceIte, resV, retV, Ex.done, noH, implies_true, imp_self, forall_const, Nat.not_lt_zero, Int.reduceLT, Int.reduceLE, Tx.cells]
    rfl
  · rintro n ⟨fr, H⟩ cx wr ⟨i, rfl, hi, g2, g3, g5, gH0, gH1, gcx⟩
    dsimp only at *
    simp only [S0, S1, S2, S3, S4, S5, isnilV, Nat.reduceLT, updH, LA.ev, initA, evs, convV, faV, nckV, extV, stV, ldV, cellsAt, HO.cells, HO.wr, rdCells, wrCells, AV.cells, fillV, partsV, binV, intBin, unV, mmL, mmV, lenV, capV, Nat.reduceAdd, Nat.reduceEqDiff, Nat.reduceLeDiff, Nat.reduceMul, Nat.reduceSub, Nat.le_refl, reduceCtorEq, reduceIte, resV, retV, Ex.done, noH, implies_true, imp_self, forall_const, Nat.not_lt_zero, Int.reduceLT, Int.reduceLE, g2, g3, g5, gH0, gH1, Tx.cells]
    refine run_sel (fun h => ?_) (fun h => ?_)
    · have hlt : i < al.length := by simpa using h
      have l0 : 0 < cx + 5 := by omega
      have l1 : 1 < cx + 5 := by omega
      obtain ⟨r, hr⟩ : ∃ r, al[i] = r := ⟨_, rfl⟩
      simp only [S0, S1, S2, S3, S4, S5, isnilV, Nat.reduceLT, updH, LA.ev, initA, evs, convV, faV, nckV, extV, stV, ldV, cellsAt, HO.cells, HO.wr, rdCells, wrCells, AV.cells, fillV, partsV, binV, intBin, unV, mmL, mmV, lenV, capV, Nat.reduceAdd, Nat.reduceEqDiff, Nat.reduceLeDiff, Nat.reduceMul, Nat.reduceSub, Nat.le_refl, reduceCtorEq, reduceIte, resV, retV, Ex.done, noH, implies_true, imp_self, forall_const, Nat.not_lt_zero, Int.reduceLT, Int.reduceLE, h, g2, g3, g5, gH0, gH1, Tx.cells, hlt, hr, intC, l0, l1, bne_self_eq_false]
      exact ⟨al.length - (i + 1), by omega, i + 1, rfl, by omega, by rw [wrap_succ (by omega)]⟩
    · simp only [S0, S1, S2, S3, S4, S5, isnilV, Nat.reduceLT, updH, LA.ev, initA, evs, convV, faV, nckV, extV, stV, ldV, cellsAt, HO.cells, HO.wr, rdCells, wrCells, AV.cells, fillV, partsV, binV, intBin, unV, mmL, mmV, lenV, capV, Nat.reduceAdd, Nat.reduceEqDiff, Nat.reduceLeDiff, Nat.reduceMul, Nat.reduceSub, Nat.le_refl, reduceCtorEq, reduceIte, resV, retV, Ex.done, noH, implies_true, imp_self, forall_const, Nat.not_lt_zero, Int.reduceLT, Int.reduceLE, h, g2, g3, g5, gH0, gH1, Tx.cells]
      refine run_while (fun n s cx wr => ∃ i : Nat, n = ll.length - i ∧ i ≤ ll.length ∧ s.fr 2 = .np 0 0 ∧ s.fr 3 = .np 1 0 ∧ s.fr 6 = .int .i64 i ∧ s.H 0 = some (.blk (Tx.cells ⟨q, m, k, ky, nm, ⟨al, b⟩, ⟨ll, c⟩⟩)) ∧ s.H 1 = some (.blk (Tx.cells ⟨q, m, k, ky, nm, ⟨al, b'⟩, ⟨ll, c'⟩⟩)) ∧ 2 ≤ cx) ll.length ?_ ?_
      · refine ⟨0, by omega, by omega, ?_⟩
        simp only [S0, S1, S2, S3, S4, S5, isnilV, Nat.reduceLT, updH, LA.ev, initA, evs, convV, faV, nckV, extV, stV, ldV, cellsAt, HO.cells, HO.wr, rdCells, wrCells, AV.cells, fillV, partsV, binV, intBin, unV, mmL, mmV, lenV, capV, Nat.reduceAdd, Nat.reduceEqDiff, Nat.reduceLeDiff, Nat.reduceMul, Nat.reduceSub, Nat.le_refl, reduceCtorEq, reduceIte, resV, retV, Ex.done, noH, implies_true, imp_self, forall_const, Nat.not_lt_zero, Int.reduceLT, Int.reduceLE, Tx.cells, g2, g3, gH0, gH1]
        rfl
      · clear g2 g3 g5 gH0 gH1 gcx h hi
        rintro n ⟨fr, H⟩ cx wr ⟨i, rfl, hi, g2, g3, g6, gH0, gH1, gcx⟩
        dsimp only at *
        simp only [S0, S1, S2, S3, S4, S5, isnilV, Nat.reduceLT, updH, LA.ev, initA, evs, convV, faV, nckV, extV, stV, ldV, cellsAt, HO.cells, HO.wr, rdCells, wrCells, AV.cells, fillV, partsV, binV, intBin, unV, mmL, mmV, lenV, capV, Nat.reduceAdd, Nat.reduceEqDiff, Nat.reduceLeDiff, Nat.reduceMul, Nat.reduceSub, Nat.le_refl, reduceCtorEq, reduceIte, resV, retV, Ex.done, noH, implies_true, imp_self, forall_const, Nat.not_lt_zero, Int.reduceLT, Int.reduceLE, g2, g3, g6, gH0, gH1, Tx.cells]
        refine run_sel (fun h => ?_) (fun h => ?_)
        · have hlt : i < ll.length := by simpa using h
          have l0 : 0 < cx + 5 := by omega
          have l1 : 1 < cx + 5 := by omega
          obtain ⟨r, hr⟩ : ∃ r, ll[i] = r := ⟨_, rfl⟩
          simp only [S0, S1, S2, S3, S4, S5, isnilV, Nat.reduceLT, updH, LA.ev, initA, evs, convV, faV, nckV, extV, stV, ldV, cellsAt, HO.cells, HO.wr, rdCells, wrCells, AV.cells, fillV, partsV, binV, intBin, unV, mmL, mmV, lenV, capV, Nat.reduceAdd, Nat.reduceEqDiff, Nat.reduceLeDiff, Nat.reduceMul, Nat.reduceSub, Nat.le_refl, reduceCtorEq, reduceIte, resV, retV, Ex.done, noH, implies_true, imp_self, forall_const, Nat.not_lt_zero, Int.reduceLT, Int.reduceLE, h, g2, g3, g6, gH0, gH1, Tx.cells, hlt, hr, Leg.cells, l0, l1, eqInts, bne_self_eq_false, Nat.reduceLT]
          exact ⟨ll.length - (i + 1), by omega, i + 1, rfl, by omega, by rw [wrap_succ (by omega)]⟩
        · simp only [S0, S1, S2, S3, S4, S5, isnilV, Nat.reduceLT, updH, LA.ev, initA, evs, convV, faV, nckV, extV, stV, ldV, cellsAt, HO.cells, HO.wr, rdCells, wrCells, AV.cells, fillV, partsV, binV, intBin, unV, mmL, mmV, lenV, capV, Nat.reduceAdd, Nat.reduceEqDiff, Nat.reduceLeDiff, Nat.reduceMul, Nat.reduceSub, Nat.le_refl, reduceCtorEq, reduceIte, resV, retV, Ex.done, noH, implies_true, imp_self, forall_const, Nat.not_lt_zero, Int.reduceLT, Int.reduceLE, h, g2, g3, g6, gH0, gH1]

end Go.Proofs.YtfhflogbffibiaaGreat
