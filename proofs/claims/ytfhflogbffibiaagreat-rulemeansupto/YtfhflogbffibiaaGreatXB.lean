/-
  The entry: the program's own types; what a law's answer gives its row.
-/
import Derived.Test.YtfhflogbffibiaaGreatXA
import Derived.Test.YtfhflogbffibiaaGreatKS
import Derived.Test.YtfhflogbffibiaaGreatWA
import Derived.ChangeSame
namespace Go.Proofs.YtfhflogbffibiaaGreat
open Go Go.ChangeShapes Go.WideShapes
set_option linter.unusedSimpArgs false
set_option linter.unusedVariables false

abbrev I64 (n : Int) : Prop := (Lit.int .i64 n).wf = true
def DrawI (d : Draw) : Prop := I64 d.alloc ∧ I64 d.amount ∧ True
def RateI (r : Rate) : Prop := I64 r.qos ∧ I64 r.frm ∧ I64 r.price ∧ True
def FundI (f : Fund) : Prop := True ∧ I64 f.parent ∧ I64 f.limit ∧ True
def AllocI (a : Alloc) : Prop := I64 a.fund ∧ I64 a.frm ∧ I64 a.til ∧ I64 a.avail ∧ I64 a.liened ∧ I64 a.spent ∧ True
def JobI (j : Job) : Prop := I64 j.id ∧ I64 j.fund ∧ I64 j.nodes ∧ I64 j.wall ∧ I64 j.qos ∧ I64 j.prio ∧ I64 j.price ∧ I64 j.state ∧ I64 j.start ∧ I64 j.mask ∧ I64 j.used ∧ (j.draws.l.length ≤ 1048576 ∧ ∀ d ∈ j.draws.l, DrawI d) ∧ True
def StateI (s : State) : Prop := I64 s.seq ∧ I64 s.world ∧ I64 s.next ∧ (s.funds.l.length ≤ 1048576 ∧ ∀ f ∈ s.funds.l, FundI f) ∧ (s.allocs.l.length ≤ 1048576 ∧ ∀ a ∈ s.allocs.l, AllocI a) ∧ (s.rates.l.length ≤ 1048576 ∧ ∀ r ∈ s.rates.l, RateI r) ∧
  (s.jobs.l.length ≤ 1048576 ∧ ∀ j ∈ s.jobs.l, JobI j) ∧ (s.keys.l.length ≤ 1048576 ∧ ∀ k ∈ s.keys.l, True) ∧ True
def CfgI (c : Cfg) : Prop := I64 c.nodes ∧ I64 c.mode ∧ I64 c.slot ∧ I64 c.log ∧ True
def CmdI (x : Cmd) : Prop := I64 x.kind ∧ True ∧ True ∧ (x.args.l.length ≤ 1048576 ∧ ∀ n ∈ x.args.l, I64 n) ∧ True

section
variable {H : Type} {enc : TypeId × Value → H} {w : World}

theorem rdI : Rd enc Tryz.prog w 3 (fun n : Int => [.int .i64 n]) I64 := rd_int Tryz.underlying3
theorem rdS : Rd enc Tryz.prog w 9 (fun s : ByteArray => [.str s]) (fun _ => True) := rd_str Tryz.underlying9
theorem rdDraw : Rd enc Tryz.prog w 80 Draw.cells DrawI :=
  (rd_struct (ts := [3, 3]) Tryz.underlying80 rfl (by kernel_rfl) (by kernel_rfl) (rdF_cons rdI (rdF_cons rdI rdF_nil))).map (fun p => ⟨p.1, p.2.1⟩) (fun _ => rfl) (fun _ h => h)
theorem rdRate : Rd enc Tryz.prog w 143 Rate.cells RateI :=
  (rd_struct (ts := [3, 3, 3]) Tryz.underlying143 rfl (by kernel_rfl) (by kernel_rfl) (rdF_cons rdI (rdF_cons rdI (rdF_cons rdI rdF_nil)))).map (fun p => ⟨p.1, p.2.1, p.2.2.1⟩) (fun _ => rfl) (fun _ h => h)
theorem rdFund : Rd enc Tryz.prog w 91 Fund.cells FundI :=
  (rd_struct (ts := [9, 3, 3]) Tryz.underlying91 rfl (by kernel_rfl) (by kernel_rfl) (rdF_cons rdS (rdF_cons rdI (rdF_cons rdI rdF_nil)))).map (fun p => ⟨p.1, p.2.1, p.2.2.1⟩) (fun _ => rfl) (fun _ h => h)
theorem rdAlloc : Rd enc Tryz.prog w 69 Alloc.cells AllocI :=
  (rd_struct (ts := [3, 3, 3, 3, 3, 3]) Tryz.underlying69 rfl (by kernel_rfl) (by kernel_rfl) (rdF_cons rdI (rdF_cons rdI (rdF_cons rdI (rdF_cons rdI (rdF_cons rdI (rdF_cons rdI rdF_nil))))))).map (fun p => ⟨p.1, p.2.1, p.2.2.1, p.2.2.2.1, p.2.2.2.2.1, p.2.2.2.2.2.1⟩) (fun _ => rfl) (fun _ h => h)
theorem rdDraws : Rd enc Tryz.prog w 65 (fun s : Sl Draw => [.ro 2 (s.l.map Draw.cells) s.c]) (fun s => s.l.length ≤ 1048576 ∧ ∀ d ∈ s.l, DrawI d) := rd_slice 2 Tryz.underlying65 (by kernel_rfl) (by omega) (fun _ => rfl) rdDraw
theorem rdJob : Rd enc Tryz.prog w 67 Job.cells JobI :=
  (rd_struct (ts := [3, 3, 3, 3, 3, 3, 3, 3, 3, 3, 3, 65]) Tryz.underlying67 rfl (by kernel_rfl) (by kernel_rfl) (rdF_cons rdI (rdF_cons rdI (rdF_cons rdI (rdF_cons rdI (rdF_cons rdI (rdF_cons rdI (rdF_cons rdI (rdF_cons rdI (rdF_cons rdI (rdF_cons rdI (rdF_cons rdI (rdF_cons rdDraws rdF_nil))))))))))))).map
    (fun p => ⟨p.1, p.2.1, p.2.2.1, p.2.2.2.1, p.2.2.2.2.1, p.2.2.2.2.2.1, p.2.2.2.2.2.2.1, p.2.2.2.2.2.2.2.1, p.2.2.2.2.2.2.2.2.1, p.2.2.2.2.2.2.2.2.2.1, p.2.2.2.2.2.2.2.2.2.2.1, p.2.2.2.2.2.2.2.2.2.2.2.1⟩) (fun _ => rfl) (fun _ h => h)
theorem rdState : Rd enc Tryz.prog w 28 State.cells StateI :=
  (rd_struct (ts := [3, 3, 3, 22, 23, 24, 25, 26]) Tryz.underlying28 rfl (by kernel_rfl) (by kernel_rfl) (rdF_cons rdI (rdF_cons rdI (rdF_cons rdI
    (rdF_cons (rd_slice 3 Tryz.underlying22 (by kernel_rfl) (by omega) (fun _ => rfl) rdFund) (rdF_cons (rd_slice 6 Tryz.underlying23 (by kernel_rfl) (by omega) (fun _ => rfl) rdAlloc)
    (rdF_cons (rd_slice 3 Tryz.underlying24 (by kernel_rfl) (by omega) (fun _ => rfl) rdRate) (rdF_cons (rd_slice 12 Tryz.underlying25 (by kernel_rfl) (by omega) (fun _ => rfl) rdJob)
    (rdF_cons (rd_slice 1 Tryz.underlying26 (by kernel_rfl) (by omega) (fun _ => rfl) rdS) rdF_nil))))))))).map
    (fun p => ⟨p.1, p.2.1, p.2.2.1, p.2.2.2.1, p.2.2.2.2.1, p.2.2.2.2.2.1, p.2.2.2.2.2.2.1, p.2.2.2.2.2.2.2.1⟩) (fun _ => rfl) (fun _ h => h)
theorem rdCfg : Rd enc Tryz.prog w 48 Cfg.cells CfgI :=
  (rd_struct (ts := [3, 3, 3, 3]) Tryz.underlying48 rfl (by kernel_rfl) (by kernel_rfl) (rdF_cons rdI (rdF_cons rdI (rdF_cons rdI (rdF_cons rdI rdF_nil))))).map (fun p => ⟨p.1, p.2.1, p.2.2.1, p.2.2.2.1⟩) (fun _ => rfl) (fun _ h => h)
theorem rdCmd : Rd enc Tryz.prog w 50 Cmd.cells CmdI :=
  (rd_struct (ts := [3, 9, 9, 29]) Tryz.underlying50 rfl (by kernel_rfl) (by kernel_rfl) (rdF_cons rdI (rdF_cons rdS (rdF_cons rdS (rdF_cons (rd_slice 1 Tryz.underlying29 (by kernel_rfl) (by omega) (fun _ => rfl) rdI) rdF_nil))))).map (fun p => ⟨p.1, p.2.1, p.2.2.1, p.2.2.2.1⟩) (fun _ => rfl) (fun _ h => h)

/-- An argument of a struct's type. -/
theorem rd_arg {P : Program} {r : Reach} {base : Nat} {t : TypeId} {fs : Array Field} {α : Type} {f : α → List AV} {I : α → Prop} (h : Rd enc P w t f I) (ht : P.underlying t = some (.struct fs)) {v : Value} {d : DataW H} {p : List MemPlace}
    (hv : Value.okWide P w r base t v) (hd : DataW.Trod enc P w 0 (fun _ => true) true t v d p) (hb : Rows.uptoBulk d ≤ 1048576) : ∃ a, Rep (roOf w) (.agg (f a)) v ∧ I a := by
  obtain ⟨cs, rfl, -⟩ := okWide_struct ht hv
  obtain ⟨n, hn⟩ := hd
  obtain ⟨a, ha, hi⟩ := h n _ _ hn hb
  refine ⟨a, ?_, hi⟩
  have := ha.agg
  simpa [Value.cells] using this
end

/-- What a law's walk gives: the call answers true and turns nothing that was there. -/
theorem law_calls {f : Nat} {args : List AV} {vs : List Value} {W : World} (h : Fn f args noH 0 fun o => o.v = .bool true) (hA : ArgsRep (roOf W) args vs) :
    Calls Tryz.prog f vs.toArray W fun e W' => e = .returned (.bool true) ∧ RowKit.Below W.heap.size W W' := by
  obtain ⟨n, o, ho, hv⟩ := h
  have hs := (machine n f args noH 0 o ho).sp
  refine (hs (roOf W) W (fun b => b < W.heap.size) vs (roOf_base W) (fun _ h => h) ⟨fun nm o h => (by cases h), fun nm nm' o o' b c c' h => (by cases h), fun nm _ => rfl⟩ hA).mono ?_
  rintro e W' ⟨v, r, H', Γ', rfl, ⟨rfl, rfl⟩, hr, -, -, hE⟩
  rw [hv] at hr
  cases hr
  exact ⟨rfl, hE.os, hE.tape, hE.out, hE.size, hE.keep⟩

/-- The arguments read as they did. -/
theorem trodAll_stays {H : Type} {enc : TypeId × Value → H} {P : Program} (hl : laidOutB P = true) {W W' : World} {sp : Nat → Bool} : ∀ {ts : List TypeId} {vs : List Value} {ds : List (DataW H)} {ps : List MemPlace}, (∀ t ∈ ts, P.readableRec t = true ∧ t < P.types.size) →
    DataW.TrodAll enc P W 0 (fun _ => true) true ts vs ds ps → (∀ p ∈ ps, W.sameAt W' p) → (∀ p ∈ ps, sp p.block = true) → DataW.TrodAll enc P W' 0 sp true ts vs ds ps
  | [], [], [], _, _, h, _, _ => h
  | _ :: _, _ :: _, _ :: _, _, ht, ⟨p, q, h1, h2, e⟩, hs, hp =>
    ⟨p, q, WideElems.Trod_stays hl (ht _ (List.mem_cons.2 (Or.inl rfl))).1 (ht _ (List.mem_cons.2 (Or.inl rfl))).2 h1 (fun x hx => hs x (by rw [e]; exact List.mem_append_left _ hx)) (fun x hx => hp x (by rw [e]; exact List.mem_append_left _ hx)),
      trodAll_stays hl (fun t h => ht t (List.mem_cons.2 (Or.inr h))) h2 (fun x hx => hs x (by rw [e]; exact List.mem_append_right _ hx)) (fun x hx => hp x (by rw [e]; exact List.mem_append_right _ hx)), e⟩

/-- What the row asks, of an answer behind which nothing old has turned. -/
theorem post_of_below {H : Type} {enc : TypeId × Value → H} {P : Program} {f : Func} {s : ChangeSpec} {apart fresh handsOn again : Bool} {W W' : World} {args : Array Value} {v : Value} {ds gs : List (DataW H)} {before pa pv : List MemPlace}
    (hW : DataW.Whole enc P f.params.toList s.vars apart W args.toList ds gs before)
    (hres : ∀ (b : Nat) (sp : Nat → Bool) (hd : Bool), DataW.TrodAll enc P W' b sp hd f.resultTypes.toList (v.resultList f.resultTypes.size) (s.fn H (ds ++ gs)).results [])
    (hargs : ∀ sp : Nat → Bool, (∀ p ∈ before, sp p.block = true) → DataW.TrodAll enc P W' 0 sp true f.params.toList args.toList (s.fn H (ds ++ gs)).args pa)
    (hvars : ∀ sp : Nat → Bool, (∀ p ∈ before, sp p.block = true) → DataW.TrodVars enc P W' sp s.vars (s.fn H (ds ++ gs)).vars pv)
    (hps : before = pa ++ pv) (hb : RowKit.Below W.heap.size W W')
    (hok : ∀ (j : Nat) (t : TypeId) (r : Value), f.resultTypes[j]? = some t → (v.resultList f.resultTypes.size)[j]? = some r → Value.okWide P W' .any 0 t r) :
    s.post enc P f apart fresh handsOn again W args v W' := by
  have hlt : ∀ p ∈ before, p.block < W.heap.size := fun p hp => hW.lt p hp
  have hold : ∀ p ∈ before, (fun b => decide (b < W.heap.size)) p.block = true := fun p hp => by simpa using hlt p hp
  refine ⟨ds, gs, before, [], pa, pv, hW, hres _ _ _, hargs _ hold, hvars _ hold, World.keptBut_mono (fun p hp => ⟨hp, ?_⟩) (hb.frame (· ∈ before)), fun _ => ?_⟩
  · rw [hps, List.mem_append] at hp
    exact Or.inr hp
  · obtain ⟨_, _, _, _, _, hz, hn⟩ := hW
    refine ⟨hok, _, _, ([] ++ pa) ++ pv, ⟨[] ++ pa, pv, trodAll_append (hargs _ (fun _ _ => rfl)) (hres _ _ _), hvars _ (fun _ _ => rfl), rfl, ?_, ?_⟩, ?_⟩
    · intro b off hp
      have hm : MemPlace.cell b off ∈ before := by rw [hps]; simpa using hp
      rw [hb.frozen (p := ⟨b, off, none⟩) (hlt _ hm)]
      exact hz b off hm
    · intro ha
      have := hn ha
      rw [hps] at this
      simpa using this
    · intro p hp _
      rw [hps]
      simpa using hp

end Go.Proofs.YtfhflogbffibiaaGreat
