/- SealChanges, where what it reads is of bulk at most 1048576: the walk set into the row's form (the row itself: RowChanges). -/
import Derived.Test.YtopobangjpehnaaRows
import Derived.Test.YtopobangjpehnaaChangesAll
import Derived.WalkKit
import Derived.ProofKit
import Derived.OpenShut
import Derived.ShutString
import Derived.ChangeOld
import Derived.Below
import Derived.SizedLaws
import Derived.JoinedCond
import Derived.SliceStrings
namespace Go.Proofs.Ytopobangjpehnaa.sealChanges
open Go.ChangeShapes Go.WideShapes Go.ChangeAt Go.RowKit
open Go.ChangeMaps (open_string shut_string)
set_option linter.unusedVariables false
theorem own : ownKnob Try.prog.godebug = none := by kernel_rfl
theorem laidOut : laidOutB Try.prog = true := by kernel_rfl
theorem one_le {H : Type} (d : DataW H) : 1 ≤ Rows.uptoBulk d := by
  cases d with
  | lit l => cases l <;> simp [Rows.uptoBulk]
  | nil => simp [Rows.uptoBulk]
  | ptr d => simp [Rows.uptoBulk]
  | slice elems spare => simp [Rows.uptoBulk]
  | agg parts => simp [Rows.uptoBulk]
  | iface t d => simp [Rows.uptoBulk]
  | map entries => simp [Rows.uptoBulk]
  | held h => simp [Rows.uptoBulk]
theorem part_le {H : Type} {d : DataW H} {l : List (DataW H)} (h : d ∈ l) : Rows.uptoBulk d ≤ Rows.uptoBulkAll l := by
  induction l with
  | nil => cases h
  | cons x r ih =>
    simp only [Rows.uptoBulkAll]
    cases List.mem_cons.1 h with
    | inl e => subst e; omega
    | inr e => have := ih e; omega
theorem length_le {H : Type} (l : List (DataW H)) : l.length ≤ Rows.uptoBulkAll l := by
  induction l with
  | nil => simp [Rows.uptoBulkAll]
  | cons x r ih => have := one_le x; simp only [Rows.uptoBulkAll, List.length_cons]; omega
theorem slice_le {H : Type} (elems spare : List (DataW H)) : Rows.uptoBulkAll elems ≤ Rows.uptoBulk (.slice elems spare) := by
  simp only [Rows.uptoBulk]
  omega
theorem text_le {H : Type} (s : ByteArray) : s.size ≤ Rows.uptoBulk (DataW.lit (H := H) (.string s.data.toList)) := by
  simp only [Rows.uptoBulk]
  rw [show s.data.toList.length = s.size by rw [Array.length_toList]; rfl]
  omega
set_option maxRecDepth 100000 in
theorem lifted (os : Os) (started : os.Started) (H : Type) (enc : TypeId × Value → H) (F : Stop.Interp) :
    ReturnsInHanded {} Try.checked os 7 .any ((Rows.OpenSpec.upto Rows.sealChangesSpec).pre6 enc Try.prog Try.f7 Rows.sealChangesUptoRow.domain false) (((Rows.OpenSpec.upto Rows.sealChangesSpec).at F).post enc Try.prog Try.f7 false true false false) := by
  refine returnsInHanded_of_cond (C := Try.checked) (s := Rows.OpenSpec.upto Rows.sealChangesSpec) (k := Rows.uptoSmall) rfl own started (by kernel_rfl) Try.func7
    (OpenSpec.witness (enc := enc) (C := Try.checked) (s := Rows.OpenSpec.upto Rows.sealChangesSpec) (k := Rows.uptoSmall) rfl false ⟨#[], #[.int .i64 0, .string ByteArray.empty, .string ByteArray.empty, .slice none 0 0, .slice none 0 0, .string ByteArray.empty], []⟩ 8 (by kernel_rfl) (by kernel_rfl) (by kernel_rfl)
      (x := ([.lit (.int .i64 0), .lit (.string []), .lit (.string []), .nil, .nil, .lit (.string [])], [], [])) (by kernel_rfl) rfl (by kernel_rfl)) ?_
  intro W base args ds gs before hval0 hW hcnd hk _
  have hval : ∀ (j : Nat) t v, Try.f7.params[j]? = some t → args[j]? = some v → Value.okWide Try.prog W .any base t v := hval0
  have hW' := hW
  obtain ⟨p, q, hA0, hV, rfl, hfz, hnd⟩ := hW
  have hA : DataW.TrodAll enc Try.prog W 0 (fun _ => true) true Try.f7.params.toList args.toList ds p := hA0
  rw [Try.params7] at hA hval
  obtain ⟨v0, vs0, d0, ds0, p0, q0, hargs, rfl, rfl, h0, r0⟩ := trodAll_cons hA
  obtain ⟨v1, vs1, d1, ds1, p1, q1, rfl, rfl, rfl, h1, r1⟩ := trodAll_cons r0
  obtain ⟨v2, vs2, d2, ds2, p2, q2, rfl, rfl, rfl, h2, r2⟩ := trodAll_cons r1
  obtain ⟨v3, vs3, d3, ds3, p3, q3, rfl, rfl, rfl, h3, r3⟩ := trodAll_cons r2
  obtain ⟨v4, vs4, d4, ds4, p4, q4, rfl, rfl, rfl, h4, r4⟩ := trodAll_cons r3
  obtain ⟨v5, vs5, d5, ds5, p5, q5, rfl, rfl, rfl, h5, r5⟩ := trodAll_cons r4
  obtain ⟨rfl, rfl, rfl⟩ := trodAll_nil r5
  obtain rfl : args = #[v0, v1, v2, v3, v4, v5] := by cases args; simp_all
  obtain ⟨rfl, rfl⟩ := trodVars_none hV
  have hb : Rows.uptoBulkAll ([d0, d1, d2, d3, d4, d5] ++ []) ≤ 1048576 := of_decide_eq_true hk
  rw [List.append_nil] at hb
  have hb1 := Nat.le_trans (part_le (d := d1) (l := [d0, d1, d2, d3, d4, d5]) (by simp)) hb
  have hb2 := Nat.le_trans (part_le (d := d2) (l := [d0, d1, d2, d3, d4, d5]) (by simp)) hb
  have hb3 := Nat.le_trans (part_le (d := d3) (l := [d0, d1, d2, d3, d4, d5]) (by simp)) hb
  have hb4 := Nat.le_trans (part_le (d := d4) (l := [d0, d1, d2, d3, d4, d5]) (by simp)) hb
  have hb5 := Nat.le_trans (part_le (d := d5) (l := [d0, d1, d2, d3, d4, d5]) (by simp)) hb
  clear hb hk
  obtain ⟨a0, rfl, rfl, rfl, w0⟩ := open_int Try.underlying3 (hval 0 3 v0 rfl rfl) h0
  obtain ⟨a1, rfl, rfl, rfl, y1⟩ := open_string Try.underlying9 (hval 1 9 v1 rfl rfl) h1
  obtain ⟨a2, rfl, rfl, rfl, y2⟩ := open_string Try.underlying9 (hval 2 9 v2 rfl rfl) h2
  obtain ⟨a3, len3, cap3, rfl⟩ := okWide_slice Try.underlying41 (hval 3 41 v3 rfl rfl)
  obtain ⟨a4, len4, cap4, rfl⟩ := okWide_slice Try.underlying42 (hval 4 42 v4 rfl rfl)
  obtain ⟨a5, rfl, rfl, rfl, y5⟩ := open_string Try.underlying9 (hval 5 9 v5 rfl rfl) h5
  have z1 := Nat.le_trans (text_le a1) hb1
  have z2 := Nat.le_trans (text_le a2) hb2
  have z5 := Nat.le_trans (text_le a5) hb5
  have k3 := h3
  have k4 := h4
  have lt3 : ∀ x ∈ p3, x.block < W.heap.size := by obtain ⟨m, hm⟩ := k3; exact DataW.trod_lt m _ _ _ hm
  have lt4 : ∀ x ∈ p4, x.block < W.heap.size := by obtain ⟨m, hm⟩ := k4; exact DataW.trod_lt m _ _ _ hm
  have w3 : ∃ K, Seal.Strs W a3 len3 K ∧ len3 ≤ 2000000 := by
    obtain ⟨fuel, hf⟩ := h3
    rcases open_strings Try.underlying41 Try.underlying9 (by kernel_rfl) hf with ⟨hcs, _⟩ | ⟨x, l, c, ss, hcs, _, hl, hm, hz, hx, hcell, hws⟩
    · simp [Value.cells] at hcs
      obtain ⟨rfl, rfl, rfl⟩ := hcs
      exact ⟨fun _ => ByteArray.empty, fun i h => absurd h (by omega), by omega⟩
    · simp [Value.cells] at hcs
      obtain ⟨rfl, rfl, rfl⟩ := hcs
      have hd : d3 = .slice (strs (ss.take len3)) (strs (ss.drop len3)) := by injection hx
      have hls : ss.length = cap3 := by simpa using hz
      rw [hd] at hb3
      have hb3' := Nat.le_trans (slice_le _ _) hb3
      have hlen := Nat.le_trans (length_le _) hb3'
      have hlt : (strs (H := H) (ss.take len3)).length = len3 := by unfold strs; rw [List.length_map, List.length_take]; omega
      rw [hlt] at hlen
      refine ⟨fun i => ss.getD i ByteArray.empty, fun i h => ⟨x, rfl, hcell i (by omega), ?_⟩, by omega⟩
      have hi : i < ss.length := by omega
      have hmem : DataW.lit (H := H) (.string (ss.getD i ByteArray.empty).data.toList) ∈ strs (ss.take len3) := by
        unfold strs
        refine List.mem_map.2 ⟨ss[i], ?_, ?_⟩
        · rw [List.mem_take_iff_getElem]
          exact ⟨i, by omega, rfl⟩
        · rw [List.getD_eq_getElem?_getD, List.getElem?_eq_getElem hi]; rfl
      have h1 := Nat.le_trans (text_le _) (Nat.le_trans (part_le hmem) hb3')
      exact Nat.le_trans h1 (by decide)
  have w4 : ∃ K, Seal.Nums W a4 len4 K ∧ len4 ≤ 2000000 := by
    obtain ⟨fuel, hf⟩ := h4
    rcases open_ints Try.underlying42 Try.underlying3 (by kernel_rfl) hf with ⟨hcs, _⟩ | ⟨x, l, c, zs, hcs, _, hl, hm, hz, hx, hcell, hws⟩
    · simp [Value.cells] at hcs
      obtain ⟨rfl, rfl, rfl⟩ := hcs
      exact ⟨fun _ => 0, fun i h => absurd h (by omega), by omega⟩
    · simp [Value.cells] at hcs
      obtain ⟨rfl, rfl, rfl⟩ := hcs
      have hd : d4 = .slice (lits .i64 (zs.take len4)) (lits .i64 (zs.drop len4)) := by injection hx
      have hls : zs.length = cap4 := by simpa using hz
      rw [hd] at hb4
      have hlen := Nat.le_trans (length_le _) (Nat.le_trans (slice_le _ _) hb4)
      have hlt : (lits (H := H) .i64 (zs.take len4)).length = len4 := by unfold lits; rw [List.length_map, List.length_take]; omega
      rw [hlt] at hlen
      refine ⟨fun i => zs.getD i 0, fun i h => ⟨x, rfl, hcell i (by omega), ?_⟩, by omega⟩
      have hi : i < zs.length := by omega
      have e : zs.getD i 0 = zs[i] := by rw [List.getD_eq_getElem?_getD, List.getElem?_eq_getElem hi]; rfl
      show -9223372036854775808 ≤ zs.getD i 0 ∧ zs.getD i 0 ≤ 9223372036854775807
      rw [e]
      exact Walk.wf_i64 (hws _ (List.getElem_mem hi))
  obtain ⟨K3, s3, l3⟩ := w3
  obtain ⟨K4, s4, l4⟩ := w4
  clear hA0 hval0 hb1 hb2 hb3 hb4 hb5
  refine (Seal.changes_law W a0 w0 a1 (by omega) a2 (by omega) a3 len3 cap3 l3 K3 s3 a4 len4 cap4 l4 K4 s4 a5 (by omega)).mono fun e W' ⟨he, bel⟩ => ?_
  subst he
  exact ⟨_, rfl, _, _, _, [], _, [], hW', trodAll_mk1 (shut_bool Try.underlying4 _), (trodAll_cons_mk (shut_int Try.underlying3 w0) (trodAll_cons_mk (shut_string Try.underlying9 y1) (trodAll_cons_mk (shut_string Try.underlying9 y2) (trodAll_cons_mk (Below.trod laidOut (by kernel_rfl) (of_decide_eq_true (by kernel_rfl)) k3 bel lt3) (trodAll_cons_mk (Below.trod laidOut (by kernel_rfl) (of_decide_eq_true (by kernel_rfl)) k4 bel lt4) (trodAll_cons_mk (shut_string Try.underlying9 y5) trodAll_mk0)))))), rfl, bel.frame _, fun h => by cases h⟩
end Go.Proofs.Ytopobangjpehnaa.sealChanges
