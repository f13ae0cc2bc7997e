/- SealPlays: the walk set into the row's form, for every input (the row itself: RowPlays). -/
import Derived.Test.YtopobangjpehnaaGreatRows
import Derived.Test.YtopobangjpehnaaGreatPlays
import Derived.WalkKit
import Derived.ProofKit
import Derived.OpenShut
import Derived.ShutString
import Derived.ChangeOld
import Derived.ChangeSame
import Derived.Below
import Derived.SizedLaws
import Derived.Deep.Slices
namespace Go.Proofs.YtopobangjpehnaaGreat.sealPlays
open Go.ChangeShapes Go.WideShapes Go.ChangeAt Go.RowKit
set_option linter.unusedVariables false
theorem own : ownKnob Tryz.prog.godebug = none := by kernel_rfl
theorem laidOut : laidOutB Tryz.prog = true := by kernel_rfl
theorem wf64 {c : Int} (h : (Lit.int .i64 c).wf = true) : Seal.I64 c := by
  simpa [Lit.wf, IntKind.min, IntKind.max, IntKind.signed, IntKind.bits] using h
section
variable {H : Type} {enc : TypeId × Value → H} {w : World} {base : Nat} {spare : Nat → Bool} {held : Bool}
theorem cells35 : Tryz.prog.cellsOf 35 = 8 := by kernel_rfl
theorem cells3 : Tryz.prog.cellsOf 3 = 1 := by kernel_rfl
theorem cells9 : Tryz.prog.cellsOf 9 = 1 := by kernel_rfl
theorem bytes35 : Tryz.prog.bytesOf 35 = 88 := by kernel_rfl
theorem mem_all {P : Program} {e : TypeId} {d : DataW H} {l : List (DataW H)} {n : Nat} (h : d ∈ l) (hn : n ∈ d.weights P e) : n ∈ DataW.weightsAll P e l := by
  induction l with
  | nil => cases h
  | cons x r ih =>
    simp only [DataW.weightsAll, List.mem_append]
    rcases List.mem_cons.1 h with rfl | h
    · exact .inl hn
    · exact .inr (ih h)
set_option maxRecDepth 100000 in
/-- A step of a script, read. -/
theorem open_op {n : Nat} {cs : List Value} {D : DataW H} {Pl : List MemPlace} (h : DataW.trod enc Tryz.prog w base spare held n 35 cs = some (D, Pl)) :
    ∃ o : Seal.OpD, cs = (Seal.opCells o).toList ∧ (Seal.I64 o.kind ∧ Seal.I64 o.on ∧ Seal.I64 o.slot ∧ Seal.I64 o.alg ∧ Seal.I64 o.method) ∧ o.key.size ∈ D.weights Tryz.prog 35 ∧ o.exch.size ∈ D.weights Tryz.prog 35 ∧ o.text.size ∈ D.weights Tryz.prog 35 := by
  obtain ⟨xs, m, _, hx, hlen, hxl, hf⟩ := DataW.trod_struct Tryz.underlying35 h
  rw [cells35] at hlen
  have hxl8 : xs.length = 8 := hxl
  clear hxl
  match cs, hlen with
  | [c0, c1, c2, c3, c4, c5, c6, c7], _ =>
    match xs, hxl8 with
    | [y0, y1, y2, y3, y4, y5, y6, y7], _ =>
      have h0 : DataW.trod enc Tryz.prog w base spare held m 3 [c0] = some y0 := by have := hf 0 _ rfl; simpa [cells3] using this
      have h1 : DataW.trod enc Tryz.prog w base spare held m 3 [c1] = some y1 := by have := hf 1 _ rfl; simpa [cells3] using this
      have h2 : DataW.trod enc Tryz.prog w base spare held m 3 [c2] = some y2 := by have := hf 2 _ rfl; simpa [cells3] using this
      have h3 : DataW.trod enc Tryz.prog w base spare held m 3 [c3] = some y3 := by have := hf 3 _ rfl; simpa [cells3] using this
      have h4 : DataW.trod enc Tryz.prog w base spare held m 3 [c4] = some y4 := by have := hf 4 _ rfl; simpa [cells3] using this
      have h5 : DataW.trod enc Tryz.prog w base spare held m 9 [c5] = some y5 := by have := hf 5 _ rfl; simpa [cells9] using this
      have h6 : DataW.trod enc Tryz.prog w base spare held m 9 [c6] = some y6 := by have := hf 6 _ rfl; simpa [cells9] using this
      have h7 : DataW.trod enc Tryz.prog w base spare held m 9 [c7] = some y7 := by have := hf 7 _ rfl; simpa [cells9] using this
      obtain ⟨k0, e0, _, w0⟩ := DataW.trod_int Tryz.underlying3 h0
      obtain ⟨k1, e1, _, w1⟩ := DataW.trod_int Tryz.underlying3 h1
      obtain ⟨k2, e2, _, w2⟩ := DataW.trod_int Tryz.underlying3 h2
      obtain ⟨k3, e3, _, w3⟩ := DataW.trod_int Tryz.underlying3 h3
      obtain ⟨k4, e4, _, w4⟩ := DataW.trod_int Tryz.underlying3 h4
      obtain ⟨s5, e5, x5, _⟩ := DataW.trod_string Tryz.underlying9 h5
      obtain ⟨s6, e6, x6, _⟩ := DataW.trod_string Tryz.underlying9 h6
      obtain ⟨s7, e7, x7, _⟩ := DataW.trod_string Tryz.underlying9 h7
      obtain rfl : c0 = _ := (List.cons.inj e0).1
      obtain rfl : c1 = _ := (List.cons.inj e1).1
      obtain rfl : c2 = _ := (List.cons.inj e2).1
      obtain rfl : c3 = _ := (List.cons.inj e3).1
      obtain rfl : c4 = _ := (List.cons.inj e4).1
      obtain rfl : c5 = _ := (List.cons.inj e5).1
      obtain rfl : c6 = _ := (List.cons.inj e6).1
      obtain rfl : c7 = _ := (List.cons.inj e7).1
      have hD : D = .agg [y0.1, y1.1, y2.1, y3.1, y4.1, y5.1, y6.1, y7.1] := (Prod.mk.inj hx).1
      have hw : ∀ s : ByteArray, (s = s5 ∨ s = s6 ∨ s = s7) → s.size ∈ D.weights Tryz.prog 35 := fun s hs => by
        rw [hD]
        unfold DataW.weights
        rw [Tryz.underlying35]
        simp only [List.map_cons, List.map_nil, DataW.weightsEach, List.mem_append]
        have e : ∀ t : ByteArray, t.size ∈ (DataW.lit (H := H) (.string t.data.toList)).weights Tryz.prog 9 := fun t => by
          unfold DataW.weights
          rw [Array.length_toList]
          exact List.mem_singleton.2 rfl
        rcases hs with rfl | rfl | rfl
        · rw [x5]; exact .inr (.inr (.inr (.inr (.inr (.inl (e _))))))
        · rw [x6]; exact .inr (.inr (.inr (.inr (.inr (.inr (.inl (e _)))))))
        · rw [x7]; exact .inr (.inr (.inr (.inr (.inr (.inr (.inr (.inl (e _))))))))
      exact ⟨⟨k0, k1, k2, k3, k4, s5, s6, s7⟩, rfl, ⟨wf64 w0, wf64 w1, wf64 w2, wf64 w3, wf64 w4⟩, hw _ (.inl rfl), hw _ (.inr (.inl rfl)), hw _ (.inr (.inr rfl))⟩
end
set_option maxRecDepth 100000 in
theorem lifted (os : Os) (started : os.Started) (H : Type) (enc : TypeId × Value → H) :
    ReturnsInHanded {} Tryz.checked os 3 .any (Rows.sealPlaysSpec.pre6 enc Tryz.prog Tryz.f3 Rows.sealPlaysRow.domain false) (Rows.sealPlaysSpec.post enc Tryz.prog Tryz.f3 false true false false) := by
  refine returnsInHanded_of_change_sized (C := Tryz.checked) own started (by kernel_rfl) Tryz.func3
    (ChangeSpec.witness6 (enc := enc) (C := Tryz.checked) false ⟨#[], #[.int .i64 0, .int .i64 0, .slice none 0 0], []⟩ 8 (by kernel_rfl) (by kernel_rfl) (by kernel_rfl) (by kernel_rfl)) ?_
  intro W base args ds gs before hval0 hW hcnd hsz0 _
  have hsz : (DataW.weightsEach Tryz.prog (Tryz.f3.params.toList ++ Rows.sealPlaysSpec.plain.varTypes Tryz.prog) (ds ++ gs)).all (· ≤ reachBytes) = true := hsz0
  have hval : ∀ (j : Nat) t v, Tryz.f3.params[j]? = some t → args[j]? = some v → Value.okWide Tryz.prog W .any base t v := hval0
  have hW' := hW
  obtain ⟨p, q, hA0, hV, rfl, hfz, hnd⟩ := hW
  have hA : DataW.TrodAll enc Tryz.prog W 0 (fun _ => true) true Tryz.f3.params.toList args.toList ds p := hA0
  rw [Tryz.params3] at hA hval hsz
  obtain ⟨v0, vs0, d0, ds0, p0, q0, hargs, rfl, rfl, h0, r0⟩ := trodAll_cons hA
  obtain ⟨v1, vs1, d1, ds1, p1, q1, rfl, rfl, rfl, h1, r1⟩ := trodAll_cons r0
  obtain ⟨v2, vs2, d2, ds2, p2, q2, rfl, rfl, rfl, h2, r2⟩ := trodAll_cons r1
  obtain ⟨rfl, rfl, rfl⟩ := trodAll_nil r2
  obtain rfl : args = #[v0, v1, v2] := by cases args; simp_all
  obtain ⟨rfl, rfl⟩ := trodVars_none hV
  obtain ⟨a0, rfl, rfl, rfl, w0⟩ := open_int Tryz.underlying3 (hval 0 3 v0 rfl rfl) h0
  obtain ⟨a1, rfl, rfl, rfl, w1⟩ := open_int Tryz.underlying3 (hval 1 3 v1 rfl rfl) h1
  obtain ⟨a2, len2, cap2, rfl⟩ := okWide_slice Tryz.underlying22 (hval 2 22 v2 rfl rfl)
  have k2 := h2
  have lt2 : ∀ x ∈ p2, x.block < W.heap.size := by obtain ⟨m, hm⟩ := k2; exact DataW.trod_lt m _ _ _ hm
  have w2 : ∃ O, Seal.Script W a2 len2 O ∧ len2 ≤ 140737488355328 := by
    obtain ⟨fuel, hf⟩ := h2
    rcases Go.Deep.open_slice Tryz.underlying22 hf with ⟨hcs, _⟩ | ⟨x, l, c, m, n, D, Pl, hcs, _, hl, hm, hmm, hx, hi⟩
    · simp [Value.cells] at hcs
      obtain ⟨rfl, rfl, rfl⟩ := hcs
      exact ⟨fun _ => ⟨0, 0, 0, 0, 0, ByteArray.empty, ByteArray.empty, ByteArray.empty⟩, fun i h => absurd h (by omega), by omega⟩
    · simp [Value.cells] at hcs
      obtain ⟨rfl, rfl, rfl⟩ := hcs
      obtain ⟨sp, hd⟩ : ∃ sp, d2 = .slice ((List.range len2).map D) sp := ⟨_, (Prod.mk.inj hx).1⟩
      have hlm : len2 ≤ m := by rw [hmm]; split <;> omega
      have hall : ∀ z ∈ d2.weights Tryz.prog 22, z ≤ 140737488351232 := fun z hz => by
        have := List.all_eq_true.1 hsz z (DataW.weights_mem_each (j := 2) rfl rfl z hz)
        exact of_decide_eq_true this
      have hlen : len2 ≤ 140737488355328 := by
        have z := hall ((((List.range len2).map D).length + sp.length) * Tryz.prog.bytesOf 35) (by rw [hd]; unfold DataW.weights; rw [Tryz.underlying22]; exact List.mem_cons_self)
        rw [bytes35, List.length_map, List.length_range] at z
        omega
      have hex : ∀ i, ∃ o : Seal.OpD, i < len2 → Seal.GoodO o ∧ ∀ j, j < 8 → W.cell? (x.add (i * 8 + j)) = (Seal.opCells o)[j]? := fun i => by
        by_cases hil : i < len2
        · obtain ⟨cs', hc, ht⟩ := hi i (by omega)
          obtain ⟨o, ho, ⟨g0, g1, g2, g3, g4⟩, s5, s6, s7⟩ := open_op ht
          rw [cells35] at hc
          obtain ⟨_, _, hat⟩ := World.cells?_some hc
          have hin : ∀ z ∈ (D i).weights Tryz.prog 35, z ≤ 140737488351232 := fun z hz => hall z (by
            rw [hd]
            unfold DataW.weights
            rw [Tryz.underlying22]
            exact List.mem_cons_of_mem _ (List.mem_append.2 (.inl (mem_all (List.mem_map.2 ⟨i, List.mem_range.2 hil, rfl⟩) hz))))
          refine ⟨o, fun _ => ⟨⟨g0, g1, g2, g3, g4, hin _ s5, hin _ s6, hin _ s7⟩, fun j hj => ?_⟩⟩
          rw [← Go.Deep.add_add, hat j hj, ho, Array.getElem?_toList]
        · exact ⟨⟨0, 0, 0, 0, 0, ByteArray.empty, ByteArray.empty, ByteArray.empty⟩, fun h => absurd h hil⟩
      obtain ⟨O, hO⟩ := Classical.axiomOfChoice hex
      refine ⟨O, fun i hil => ⟨(hO i hil).1, x, rfl, ?_, (hO i hil).2⟩, hlen⟩
      have hb := World.block_lt_of_cell? W _ (((hO i hil).2 0 (by decide)).trans (show (Seal.opCells (O i))[0]? = some (.int .i64 (O i).kind) from rfl))
      have e : (x.add (i * 8 + 0)).block = x.block := by unfold Addr.add; split <;> rfl
      rw [e] at hb
      exact hb
  obtain ⟨O, s2, l2⟩ := w2
  clear hA0 hval0 hsz0 hsz
  refine (Seal.plays_law W a0 a1 (wf64 w0) (wf64 w1) a2 len2 cap2 l2 O s2).mono fun e W' ⟨he, bel⟩ => ?_
  subst he
  exact ⟨_, rfl, _, _, _, [], _, [], hW', trodAll_mk1 (shut_bool Tryz.underlying4 _), (trodAll_cons_mk (shut_int Tryz.underlying3 w0) (trodAll_cons_mk (shut_int Tryz.underlying3 w1) (trodAll_cons_mk (Below.trod laidOut (by kernel_rfl) (of_decide_eq_true (by kernel_rfl)) k2 bel lt2) trodAll_mk0))), rfl, bel.frame _, fun h => by cases h⟩
end Go.Proofs.YtopobangjpehnaaGreat.sealPlays
