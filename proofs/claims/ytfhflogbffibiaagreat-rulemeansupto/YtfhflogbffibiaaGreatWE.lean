/-
  Walks: where a job is.
-/
import Derived.Test.YtfhflogbffibiaaGreatWC
namespace Go.Proofs.YtfhflogbffibiaaGreat
open Go
set_option linter.unusedVariables false
set_option linter.unusedSimpArgs false

def idx {α : Type} (p : α → Bool) (l : List α) : Int := match l.findIdx? p with
  | some i => i
  | none => -1

theorem plain_fnp {g n o : Nat} : (AV.fn g [.np n o]).plainN depth = false := rfl
theorem plain_np {n o : Nat} : (AV.np n o).plainN depth = false := rfl

/-- job.Find's closure -/
theorem fn114 {j : Job} {id : Int} {nm cx : Nat} {H : Heap} {K : Out → Prop} (hbd : Bd H cx) (hH : H nm = some (.blk [.int .i64 id])) (hK : ∀ H' cx' wr, Grew H cx H' cx' → K ⟨.bool (j.id == id), H', cx', wr⟩) : Fn 114 [.agg j.cells, .np nm 0] H cx K := by
  refine fn_run g114 rfl (Nat.le_of_ble_eq_true rfl) ?_
  have hlt : nm < cx := by
    rcases Nat.lt_or_ge nm cx with h | h
    · exact h
    · rw [hbd nm h] at hH; cases hH
  have a0 := hbd.at; have a00 := hbd.at0; have a1 := ne_of_old hlt
  have a2 : (nm = cx) = False := eq_false (by omega)
  dsimp only [k114, c114]
  simp only [S0, S1, S2, S3, S4, S5, isnilV, Nat.reduceLT, updH, LA.ev, initA, evs, convV, faV, nckV, extV, stV, ldV, cellsAt, HO.cells, HO.wr, rdCells, wrCells, AV.cells, fillV, partsV, binV, intBin, unV, mmL, mmV, lenV, capV, Nat.reduceAdd, Nat.reduceEqDiff, Nat.reduceLeDiff, Nat.reduceMul, Nat.reduceSub, Nat.le_refl, reduceCtorEq, reduceIte, resV, retV, Ex.done, noH, implies_true, imp_self, forall_const, Nat.not_lt_zero, Int.reduceLT, Int.reduceLE, Job.cells, a0, a00, a1, a2, hH]
  exact hK _ _ _ (((Grew.refl hbd).more (by omega)).set (Nat.le_refl _) (by omega))

theorem idx_hit {α : Type} {p : α → Bool} {l : List α} {i : Nat} (hi : i < l.length) (h : p l[i] = true) (hb : ∀ (k : Nat) (hk : k < l.length), k < i → p l[k] = false) : idx p l = i := by
  have : l.findIdx? p = some i := List.findIdx?_eq_some_iff_getElem.2 ⟨hi, h, fun j hj => by rw [hb j (by omega) hj]; simp⟩
  simp only [idx, this]

theorem idx_miss {α : Type} {p : α → Bool} {l : List α} (hb : ∀ (k : Nat) (hk : k < l.length), p l[k] = false) : idx p l = -1 := by
  have : l.findIdx? p = none := List.findIdx?_eq_none_iff.2 fun x hx => by
    obtain ⟨k, hk, rfl⟩ := List.mem_iff_getElem.1 hx
    exact hb k hk
  simp only [idx, this]

/-- slices.IndexFunc, of jobs -/
theorem fn113 {jobs : List Job} {c : Bool} {g cx : Nat} {caps : List AV} {H : Heap} {K : Out → Prop} (p : Job → Bool) (hl : jobs.length ≤ 1073741824) (hbd : Bd H cx)
    (hcall : ∀ j, j ∈ jobs → ∀ H' cx', Grew H cx H' cx' → ∀ K : Out → Prop, (∀ H'' cx'' wr, Grew H' cx' H'' cx'' → K ⟨.bool (p j), H'', cx'', wr⟩) → WCall false g (.agg j.cells :: caps) H' cx' K)
    (hK : ∀ H' cx' wr, Grew H cx H' cx' → K ⟨.int .i64 (idx p jobs), H', cx', wr⟩) : Fn 113 [.ro 12 (jobs.map Job.cells) c, .fn g caps] H cx K := by
  refine fn_run g113 rfl (Nat.le_of_ble_eq_true rfl) ?_
  dsimp only [k113, c113]
  simp only [S0, S1, S2, S3, S4, S5, isnilV, Nat.reduceLT, updH, LA.ev, initA, evs, convV, faV, nckV, extV, stV, ldV, cellsAt, HO.cells, HO.wr, rdCells, wrCells, AV.cells, fillV, partsV, binV, intBin, unV, mmL, mmV, lenV, capV, Nat.reduceAdd, Nat.reduceEqDiff, Nat.reduceLeDiff, Nat.reduceMul, Nat.reduceSub, Nat.le_refl, reduceCtorEq, reduceIte, resV, retV, Ex.done, noH, implies_true, imp_self, forall_const, Nat.not_lt_zero, Int.reduceLT, Int.reduceLE]
  refine run_while (fun n s cx' wr => ∃ i : Nat, n = jobs.length - i ∧ i ≤ jobs.length ∧ (∀ (k : Nat) (hk : k < jobs.length), k < i → p jobs[k] = false) ∧ s.fr 0 = .ro 12 (jobs.map Job.cells) c ∧ s.fr 1 = .fn g caps ∧ s.fr 7 = .int .i64 jobs.length ∧ s.fr 8 = .int .i64 i ∧ Grew H cx s.H cx') jobs.length ?_ ?_
  · refine ⟨0, by omega, by omega, fun k _ h => by omega, ?_⟩
    simp only [S0, S1, S2, S3, S4, S5, isnilV, Nat.reduceLT, updH, LA.ev, initA, evs, convV, faV, nckV, extV, stV, ldV, cellsAt, HO.cells, HO.wr, rdCells, wrCells, AV.cells, fillV, partsV, binV, intBin, unV, mmL, mmV, lenV, capV, Nat.reduceAdd, Nat.reduceEqDiff, Nat.reduceLeDiff, Nat.reduceMul, Nat.reduceSub, Nat.le_refl, reduceCtorEq, reduceIte, resV, retV, Ex.done, noH, implies_true, imp_self, forall_const, Nat.not_lt_zero, Int.reduceLT, Int.reduceLE]
    exact ⟨rfl, (Grew.refl hbd).more (by omega)⟩
  · rintro n ⟨fr, H1⟩ cx1 wr ⟨i, rfl, hi, hb, h0, h1, h7, h8, hg⟩
    dsimp only at *
    simp only [S0, S1, S2, S3, S4, S5, isnilV, Nat.reduceLT, updH, LA.ev, initA, evs, convV, faV, nckV, extV, stV, ldV, cellsAt, HO.cells, HO.wr, rdCells, wrCells, AV.cells, fillV, partsV, binV, intBin, unV, mmL, mmV, lenV, capV, Nat.reduceAdd, Nat.reduceEqDiff, Nat.reduceLeDiff, Nat.reduceMul, Nat.reduceSub, Nat.le_refl, reduceCtorEq, reduceIte, resV, retV, Ex.done, noH, implies_true, imp_self, forall_const, Nat.not_lt_zero, Int.reduceLT, Int.reduceLE, h0, h1, h7, h8]
    refine run_sel (fun h => ?_) (fun h => ?_)
    · have hlt : i < jobs.length := by simpa using h
      obtain ⟨r, hr⟩ : ∃ r, jobs[i] = r := ⟨_, rfl⟩
      simp only [S0, S1, S2, S3, S4, S5, isnilV, Nat.reduceLT, updH, LA.ev, initA, evs, convV, faV, nckV, extV, stV, ldV, cellsAt, HO.cells, HO.wr, rdCells, wrCells, AV.cells, fillV, partsV, binV, intBin, unV, mmL, mmV, lenV, capV, Nat.reduceAdd, Nat.reduceEqDiff, Nat.reduceLeDiff, Nat.reduceMul, Nat.reduceSub, Nat.le_refl, reduceCtorEq, reduceIte, resV, retV, Ex.done, noH, implies_true, imp_self, forall_const, Nat.not_lt_zero, Int.reduceLT, Int.reduceLE, h, hlt, hr, Job.cells, h0, h1, h7, h8]
      refine run_call (hcall r (hr ▸ List.getElem_mem hlt) _ _ (hg.more (by omega)) _ fun H2 cx2 wr2 hg2 => ?_)
      simp only [S0, S1, S2, S3, S4, S5, isnilV, Nat.reduceLT, updH, LA.ev, initA, evs, convV, faV, nckV, extV, stV, ldV, cellsAt, HO.cells, HO.wr, rdCells, wrCells, AV.cells, fillV, partsV, binV, intBin, unV, mmL, mmV, lenV, capV, Nat.reduceAdd, Nat.reduceEqDiff, Nat.reduceLeDiff, Nat.reduceMul, Nat.reduceSub, Nat.le_refl, reduceCtorEq, reduceIte, resV, retV, Ex.done, noH, implies_true, imp_self, forall_const, Nat.not_lt_zero, Int.reduceLT, Int.reduceLE, h0, h1, h7, h8]
      have hgg : Grew H cx H2 cx2 := (hg.more (Nat.le_add_right cx1 9)).trans hg2
      refine run_sel (fun hp => ?_) (fun hp => ?_)
      · simp only [S0, S1, S2, S3, S4, S5, isnilV, Nat.reduceLT, updH, LA.ev, initA, evs, convV, faV, nckV, extV, stV, ldV, cellsAt, HO.cells, HO.wr, rdCells, wrCells, AV.cells, fillV, partsV, binV, intBin, unV, mmL, mmV, lenV, capV, Nat.reduceAdd, Nat.reduceEqDiff, Nat.reduceLeDiff, Nat.reduceMul, Nat.reduceSub, Nat.le_refl, reduceCtorEq, reduceIte, resV, retV, Ex.done, noH, implies_true, imp_self, forall_const, Nat.not_lt_zero, Int.reduceLT, Int.reduceLE, hp, h0, h1, h7, h8]
        have := hK H2 (cx2 + 2) (wr || wr2) (hgg.more (by omega))
        rw [idx_hit hlt (by rw [hr]; exact hp) hb] at this
        exact this
      · simp only [S0, S1, S2, S3, S4, S5, isnilV, Nat.reduceLT, updH, LA.ev, initA, evs, convV, faV, nckV, extV, stV, ldV, cellsAt, HO.cells, HO.wr, rdCells, wrCells, AV.cells, fillV, partsV, binV, intBin, unV, mmL, mmV, lenV, capV, Nat.reduceAdd, Nat.reduceEqDiff, Nat.reduceLeDiff, Nat.reduceMul, Nat.reduceSub, Nat.le_refl, reduceCtorEq, reduceIte, resV, retV, Ex.done, noH, implies_true, imp_self, forall_const, Nat.not_lt_zero, Int.reduceLT, Int.reduceLE, hp, h0, h1, h7, h8]
        refine ⟨_, ?_, i + 1, rfl, by omega, fun k hk hki => ?_, ?_⟩
        · omega
        · by_cases e : k = i
          · subst e; rw [hr]; exact hp
          · exact hb k hk (by omega)
        · refine ⟨by rw [wrap_succ (by omega)], hgg.more (by omega)⟩
    · simp only [S0, S1, S2, S3, S4, S5, isnilV, Nat.reduceLT, updH, LA.ev, initA, evs, convV, faV, nckV, extV, stV, ldV, cellsAt, HO.cells, HO.wr, rdCells, wrCells, AV.cells, fillV, partsV, binV, intBin, unV, mmL, mmV, lenV, capV, Nat.reduceAdd, Nat.reduceEqDiff, Nat.reduceLeDiff, Nat.reduceMul, Nat.reduceSub, Nat.le_refl, reduceCtorEq, reduceIte, resV, retV, Ex.done, noH, implies_true, imp_self, forall_const, Nat.not_lt_zero, Int.reduceLT, Int.reduceLE, h, h0, h1, h7, h8]
      have := hK H1 (cx1 + 2) wr (hg.more (by omega))
      rw [idx_miss fun k hk => hb k hk (by simp at h; omega)] at this
      exact this

/-- job.Find -/
theorem pure67 (jobs : List Job) (c : Bool) (id : Int) (hl : jobs.length ≤ 1073741824) : Pure 67 [.ro 12 (jobs.map Job.cells) c, .int .i64 id] (.int .i64 (idx (fun j => j.id == id) jobs)) := by
  refine .of_plain rfl (fn_run g67 rfl (Nat.le_of_ble_eq_true rfl) ?_)
  dsimp only [k67, c67]
  simp only [S0, S1, S2, S3, S4, S5, isnilV, Nat.reduceLT, updH, LA.ev, initA, evs, convV, faV, nckV, extV, stV, ldV, cellsAt, HO.cells, HO.wr, rdCells, wrCells, AV.cells, fillV, partsV, binV, intBin, unV, mmL, mmV, lenV, capV, Nat.reduceAdd, Nat.reduceEqDiff, Nat.reduceLeDiff, Nat.reduceMul, Nat.reduceSub, Nat.le_refl, reduceCtorEq, reduceIte, resV, retV, Ex.done, noH, implies_true, imp_self, forall_const, Nat.not_lt_zero, Int.reduceLT, Int.reduceLE]
  refine run_call ((WCall_fn (.inr (by simp [plain_fnp]))).2 (fn113 (fun j => j.id == id) hl (Bd.no.upd (Nat.zero_le 6) (by omega)) (fun j _ H' cx' hg K hK => ?_) fun H' cx' wr hg => ?_))
  · exact (WCall_fn (.inr (by simp [plain_np]))).2 (fn114 hg.bd (by rw [hg.old 0 (by omega)]; rfl) hK)
  · simp only [S0, S1, S2, S3, S4, S5, isnilV, Nat.reduceLT, updH, LA.ev, initA, evs, convV, faV, nckV, extV, stV, ldV, cellsAt, HO.cells, HO.wr, rdCells, wrCells, AV.cells, fillV, partsV, binV, intBin, unV, mmL, mmV, lenV, capV, Nat.reduceAdd, Nat.reduceEqDiff, Nat.reduceLeDiff, Nat.reduceMul, Nat.reduceSub, Nat.le_refl, reduceCtorEq, reduceIte, resV, retV, Ex.done, noH, implies_true, imp_self, forall_const, Nat.not_lt_zero, Int.reduceLT, Int.reduceLE]

theorem call67 {jobs : List Job} {c : Bool} {id : Int} (hl : jobs.length ≤ 1073741824) {strict : Bool} {base cx : Nat} {s : St} {d : Option Nat} {k : List KI} {wr : Bool} {Q : Ex → St → Nat → Bool → Prop} : Run base (.call strict 67 [.ro 12 (jobs.map Job.cells) c, .int .i64 id] d :: k) s cx wr Q ↔ Run base k ⟨updF s.fr d (.int .i64 (idx (fun j => j.id == id) jobs)), s.H⟩ cx wr Q :=
  run_pure (pure67 jobs c id hl) rfl (by simp only [List.all_cons, plain_jobs]; rfl)

/-- ref19.Find -/
theorem pure57 (jobs : List Job) (c : Bool) (id : Int) (hl : jobs.length ≤ 1073741824) : Pure 57 [.ro 12 (jobs.map Job.cells) c, .int .i64 id] (.int .i64 (idx (fun j => j.id == id) jobs)) := by
  refine .of_plain rfl (fn_run g57 rfl (Nat.le_of_ble_eq_true rfl) ?_)
  dsimp only [k57, c57]
  simp only [S0, S1, S2, S3, S4, S5, isnilV, Nat.reduceLT, updH, LA.ev, initA, evs, convV, faV, nckV, extV, stV, ldV, cellsAt, HO.cells, HO.wr, rdCells, wrCells, AV.cells, fillV, partsV, binV, intBin, unV, mmL, mmV, lenV, capV, Nat.reduceAdd, Nat.reduceEqDiff, Nat.reduceLeDiff, Nat.reduceMul, Nat.reduceSub, Nat.le_refl, reduceCtorEq, reduceIte, resV, retV, Ex.done, noH, implies_true, imp_self, forall_const, Nat.not_lt_zero, Int.reduceLT, Int.reduceLE]
  refine run_while (fun n s cx' wr => ∃ i : Nat, n = jobs.length - i ∧ i ≤ jobs.length ∧ (∀ (k : Nat) (hk : k < jobs.length), k < i → (jobs[k].id == id) = false) ∧ s.fr 0 = .ro 12 (jobs.map Job.cells) c ∧ s.fr 1 = .int .i64 id ∧ s.fr 5 = .int .i64 i) jobs.length ?_ ?_
  · refine ⟨0, by omega, by omega, fun k _ h => by omega, ?_⟩
    simp only [S0, S1, S2, S3, S4, S5, isnilV, Nat.reduceLT, updH, LA.ev, initA, evs, convV, faV, nckV, extV, stV, ldV, cellsAt, HO.cells, HO.wr, rdCells, wrCells, AV.cells, fillV, partsV, binV, intBin, unV, mmL, mmV, lenV, capV, Nat.reduceAdd, Nat.reduceEqDiff, Nat.reduceLeDiff, Nat.reduceMul, Nat.reduceSub, Nat.le_refl, reduceCtorEq, reduceIte, resV, retV, Ex.done, noH, implies_true, imp_self, forall_const, Nat.not_lt_zero, Int.reduceLT, Int.reduceLE]
    rfl
  · rintro n ⟨fr, H1⟩ cx1 wr ⟨i, rfl, hi, hb, h0, h1, h5⟩
    dsimp only at *
    simp only [S0, S1, S2, S3, S4, S5, isnilV, Nat.reduceLT, updH, LA.ev, initA, evs, convV, faV, nckV, extV, stV, ldV, cellsAt, HO.cells, HO.wr, rdCells, wrCells, AV.cells, fillV, partsV, binV, intBin, unV, mmL, mmV, lenV, capV, Nat.reduceAdd, Nat.reduceEqDiff, Nat.reduceLeDiff, Nat.reduceMul, Nat.reduceSub, Nat.le_refl, reduceCtorEq, reduceIte, resV, retV, Ex.done, noH, implies_true, imp_self, forall_const, Nat.not_lt_zero, Int.reduceLT, Int.reduceLE, h0, h1, h5]
    refine run_sel (fun h => ?_) (fun h => ?_)
    · have hlt : i < jobs.length := by simpa using h
      obtain ⟨r, hr⟩ : ∃ r, jobs[i] = r := ⟨_, rfl⟩
      simp only [S0, S1, S2, S3, S4, S5, isnilV, Nat.reduceLT, updH, LA.ev, initA, evs, convV, faV, nckV, extV, stV, ldV, cellsAt, HO.cells, HO.wr, rdCells, wrCells, AV.cells, fillV, partsV, binV, intBin, unV, mmL, mmV, lenV, capV, Nat.reduceAdd, Nat.reduceEqDiff, Nat.reduceLeDiff, Nat.reduceMul, Nat.reduceSub, Nat.le_refl, reduceCtorEq, reduceIte, resV, retV, Ex.done, noH, implies_true, imp_self, forall_const, Nat.not_lt_zero, Int.reduceLT, Int.reduceLE, h, hlt, hr, Job.cells, h0, h1, h5]
      refine run_sel (fun hp => ?_) (fun hp => ?_)
      · simp only [S0, S1, S2, S3, S4, S5, isnilV, Nat.reduceLT, updH, LA.ev, initA, evs, convV, faV, nckV, extV, stV, ldV, cellsAt, HO.cells, HO.wr, rdCells, wrCells, AV.cells, fillV, partsV, binV, intBin, unV, mmL, mmV, lenV, capV, Nat.reduceAdd, Nat.reduceEqDiff, Nat.reduceLeDiff, Nat.reduceMul, Nat.reduceSub, Nat.le_refl, reduceCtorEq, reduceIte, resV, retV, Ex.done, noH, implies_true, imp_self, forall_const, Nat.not_lt_zero, Int.reduceLT, Int.reduceLE, hp, h0, h1, h5]
        rw [idx_hit hlt (by rw [hr]; exact hp) hb]
      · simp only [S0, S1, S2, S3, S4, S5, isnilV, Nat.reduceLT, updH, LA.ev, initA, evs, convV, faV, nckV, extV, stV, ldV, cellsAt, HO.cells, HO.wr, rdCells, wrCells, AV.cells, fillV, partsV, binV, intBin, unV, mmL, mmV, lenV, capV, Nat.reduceAdd, Nat.reduceEqDiff, Nat.reduceLeDiff, Nat.reduceMul, Nat.reduceSub, Nat.le_refl, reduceCtorEq, reduceIte, resV, retV, Ex.done, noH, implies_true, imp_self, forall_const, Nat.not_lt_zero, Int.reduceLT, Int.reduceLE, hp, h0, h1, h5]
        refine ⟨_, ?_, i + 1, rfl, by omega, fun k hk hki => ?_, ?_⟩
        · omega
        · by_cases e : k = i
          · subst e; rw [hr]; exact hp
          · exact hb k hk (by omega)
        · rw [wrap_succ (by omega)]
    · simp only [S0, S1, S2, S3, S4, S5, isnilV, Nat.reduceLT, updH, LA.ev, initA, evs, convV, faV, nckV, extV, stV, ldV, cellsAt, HO.cells, HO.wr, rdCells, wrCells, AV.cells, fillV, partsV, binV, intBin, unV, mmL, mmV, lenV, capV, Nat.reduceAdd, Nat.reduceEqDiff, Nat.reduceLeDiff, Nat.reduceMul, Nat.reduceSub, Nat.le_refl, reduceCtorEq, reduceIte, resV, retV, Ex.done, noH, implies_true, imp_self, forall_const, Nat.not_lt_zero, Int.reduceLT, Int.reduceLE, h, h0, h1, h5]
      rw [idx_miss fun k hk => hb k hk (by simp at h; omega)]

theorem call57 {jobs : List Job} {c : Bool} {id : Int} (hl : jobs.length ≤ 1073741824) {strict : Bool} {base cx : Nat} {s : St} {d : Option Nat} {k : List KI} {wr : Bool} {Q : Ex → St → Nat → Bool → Prop} : Run base (.call strict 57 [.ro 12 (jobs.map Job.cells) c, .int .i64 id] d :: k) s cx wr Q ↔ Run base k ⟨updF s.fr d (.int .i64 (idx (fun j => j.id == id) jobs)), s.H⟩ cx wr Q :=
  run_pure (pure57 jobs c id hl) rfl (by simp only [List.all_cons, plain_jobs]; rfl)

end Go.Proofs.YtfhflogbffibiaaGreat
