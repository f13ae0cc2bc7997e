/- Words for memory, and the printed contracts of package cipher in the words of the cipher on lists of bits. -/
import Derived.Test.YtopobangjpehnaaNumB
set_option linter.unusedVariables false
set_option linter.unusedSimpArgs false
namespace Go.Proofs.Ytopobangjpehnaa.Walk
open Go.RowKit Go.Proofs.YtopobangjpehnaaW.PrintWords Go.Proofs.YtopobangjpehnaaW.PrintLast Go.Proofs.YtopobangjpehnaaW.PrintMore Pr Des Num

/-! ### Blocks -/
def Blk (w : World) (g : Nat) (t : TypeId) (cs : Array Value) : Prop := w.heap[g]? = some (.cells cs t (0, 0))
section
variable {w w' : World} {g : Nat} {t : TypeId} {cs : Array Value}
theorem Blk.lt (h : Blk w g t cs) : g < w.heap.size := by
  rcases Nat.lt_or_ge g w.heap.size with hlt | hge
  · exact hlt
  · unfold Blk at h; rw [Array.getElem?_eq_none hge] at h; cases h
theorem Blk.cell (h : Blk w g t cs) (i : Nat) : w.cell? ⟨g, i, none⟩ = cs[i]? := cell_of_row w g i cs t (0, 0) h
theorem Blk.frozen (h : Blk w g t cs) (i : Nat) : w.frozen? ⟨g, i, none⟩ = false := by
  unfold Blk at h
  simp [World.frozen?, h]
theorem Blk.new (w : World) (t : TypeId) (cs : Array Value) : Blk (w.alloc (.cells cs t)) w.heap.size t cs := heap_alloc_new w _
theorem Blk.drew (h : Blk w g t cs) : Blk w.drew g t cs := h
theorem Blk.drewN (h : Blk w g t cs) (n : Nat) : Blk (w.drewN n) g t cs := h
theorem Blk.alloc (h : Blk w g t cs) (o : Obj) : Blk (w.alloc o) g t cs := (Below.heap_alloc w o g h.lt).trans h
theorem Blk.set_ (h : Blk w g t cs) (i : Nat) (u : Value) : Blk (w.setCell ⟨g, i, none⟩ u) g t (cs.setIfInBounds i u) := by
  unfold Blk at h ⊢
  simp [World.setCell, Array.getElem?_modify, h]
theorem Blk.far (h : Blk w g t cs) {p : Addr} (hp : g ≠ p.block) (u : Value) : Blk (w.setCell p u) g t cs := (Below.heap_setCell w p u g hp).trans h
theorem Blk.below {B : Nat} (h : Blk w g t cs) (hb : Below B w w') (hg : g < B) : Blk w' g t cs := (hb.block g hg).trans h
theorem Blk.ne_ {g' : Nat} {t' : TypeId} {cs' : Array Value} (h : Blk w g t cs) (h' : Blk w g' t' cs') (hne : t ≠ t') : g ≠ g' := by
  rintro rfl
  unfold Blk at h h'
  rw [h] at h'
  injection h' with h'
  injection h' with _ ht
  exact hne ht
theorem Blk.step (h : Blk w g t cs) (hb : Below w.heap.size w w') : Blk w' g t cs := (hb.block g h.lt).trans h
end
theorem size_alloc (w : World) (o : Obj) : (w.alloc o).heap.size = w.heap.size + 1 := by simp

/-! ### A part of a block, read and written whole -/
theorem addr_add (g o i : Nat) : (⟨g, o, none⟩ : Addr).add i = ⟨g, o + i, none⟩ := by unfold Addr.add; split <;> simp_all
section
variable {P : Program}
theorem run_load_part {w : World} {g : Nat} {t ty : TypeId} {cs : Array Value} {d : TypeDesc} {o n : Nat} (hg : Blk w g t cs) (ho : o + n ≤ cs.size)
    (hu : P.underlying ty = some d) (hd : (match d with | .struct _ | .array _ _ => true | _ => false) = true) (hi : (P.info? ty).map (·.size) = some n) :
    (loadVar ty ⟨g, o, none⟩).run P w = .ok (.agg (cs.extract o (o + n))) w := by
  have hlen : (cs.extract o (o + n)).toList.length = n := by rw [Array.length_toList, Array.size_extract]; omega
  have hl : (loadCells ⟨g, o, none⟩ (cs.extract o (o + n)).toList.length).run P w = .ok (cs.extract o (o + n)).toList.toArray w :=
    run_loadCells_list (P := P) w ⟨g, o, none⟩ (cs.extract o (o + n)).toList (fun j v hv => by
      rw [addr_add, hg.cell]
      have hv2 : (cs.extract o (o + n))[j]? = some v := by rw [← Array.getElem?_toList]; exact hv
      have hj : j < (cs.extract o (o + n)).size := (Array.getElem?_eq_some_iff.1 hv2).1
      rw [Array.size_extract] at hj
      rw [Array.getElem?_extract] at hv2
      rw [if_pos (by omega)] at hv2
      exact hv2)
  rw [hlen, Array.toArray_toList] at hl
  cases hq : P.info? ty with
  | none => simp [hq] at hi
  | some i =>
    have hs : i.size = n := by simpa [hq] using hi
    have hagg : (isAgg ty).run P w = .ok true w := by
      unfold isAgg
      rw [Sem.run_bind, run_underlying hu w]
      cases d <;> simp_all
    simp [loadVar, Sem.run_bind, hagg, sizeOf, typeInfo, hq, hs, hl]
theorem run_store_part {w : World} {g : Nat} {t ty : TypeId} {cs vs : Array Value} {o : Nat} (hg : Blk w g t cs) (ho : o + vs.size ≤ cs.size)
    (hi : (P.info? ty).map (·.size) = some vs.size) (h1 : ∀ v ∈ vs.toList, v.oneCell' = true) :
    (storeVar ty ⟨g, o, none⟩ (.agg vs)).run P w = .ok () (w.setRow g (cs.toList.take o ++ vs.toList ++ cs.toList.drop (o + vs.size)).toArray) := by
  have hst := run_storeCells_at P g o t vs.toList 0 cs w hg (by simpa using ho) h1
  cases hq : P.info? ty with
  | none => simp [hq] at hi
  | some i =>
    have hs : i.size = vs.size := by simpa [hq] using hi
    simp only [Nat.add_zero, Array.length_toList] at hst
    simp [storeVar, sizeOf, typeInfo, hq, Value.cells, hs, hst]
section
variable {ops : Array Oper} {rest : List Oper} {op : Oper} {a : Act} {w : World} {Q : Exit → Act → World → Prop}
theorem wpList_load_part (hgd : op.guard = none) (ty : TypeId) (x : Operand) (ho : op.op = .load ty x) {g o n : Nat} (hx : a.eval x = .pointer (some ⟨g, o, none⟩))
    {t : TypeId} {cs : Array Value} {d : TypeDesc} (hg : Blk w g t cs) (hn : o + n ≤ cs.size) (hu : P.underlying ty = some d) (hd : (match d with | .struct _ | .array _ _ => true | _ => false) = true)
    (hi : (P.info? ty).map (·.size) = some n) (h : wpList P ops Q rest (a.put op.dst (.agg (cs.extract o (o + n)))) w) : wpList P ops Q (op :: rest) a w :=
  wpList_plain hgd fun K hK => by
    unfold Oper.wp execOp
    simp only [ho, hx, Instr.loadAt, Instr.sureAddr, Sem.run_bind, Sem.run_pure, Result.andThen_ok, run_load_part hg hn hu hd hi]
    exact hK _ _ h
theorem wpList_store_part (hgd : op.guard = none) (ty : TypeId) (x y : Operand) (ho : op.op = .store ty x y) {g o : Nat} (hx : a.eval x = .pointer (some ⟨g, o, none⟩))
    {t : TypeId} {cs vs : Array Value} (hy : a.eval y = .agg vs) (hg : Blk w g t cs) (hn : o + vs.size ≤ cs.size)
    (hi : (P.info? ty).map (·.size) = some vs.size) (h1 : ∀ v ∈ vs.toList, v.oneCell' = true)
    (h : wpList P ops Q rest (a.put op.dst undef) (w.setRow g (cs.toList.take o ++ vs.toList ++ cs.toList.drop (o + vs.size)).toArray)) : wpList P ops Q (op :: rest) a w :=
  wpList_plain hgd fun K hK => by
    unfold Oper.wp execOp
    simp only [ho, hx, hy, Instr.storeAt, Instr.sureAddr, Sem.run_bind, Sem.run_pure, Result.andThen_ok, run_store_part hg hn hi h1]
    exact hK _ _ h
end
end
theorem Blk.setRow {w : World} {g : Nat} {t : TypeId} {cs : Array Value} (h : Blk w g t cs) (cs' : Array Value) : Blk (w.setRow g cs') g t cs' := setRow_heap w g cs cs' t (0, 0) h
theorem Blk.farRow {w : World} {g k : Nat} {t : TypeId} {cs : Array Value} (h : Blk w g t cs) (hne : g ≠ k) (cs' : Array Value) : Blk (w.setRow k cs') g t cs := (setRow_other w k g cs' hne).trans h
theorem row_whole {cs vs : Array Value} (h : cs.size = vs.size) : (cs.toList.take 0 ++ vs.toList ++ cs.toList.drop (0 + vs.size)).toArray = vs := by
  rw [List.take_zero, List.nil_append, List.drop_of_length_le (by rw [Array.length_toList]; omega), List.append_nil, Array.toArray_toList]
theorem extract_whole {cs : Array Value} {n : Nat} (h : cs.size = n) : cs.extract 0 (0 + n) = cs := by
  subst h; simp
theorem below_setRow' {B : Nat} {a w : World} (h : Below B a w) {g : Nat} (hg : B ≤ g) (cs : Array Value) : Below B a (w.setRow g cs) :=
  h.trans ⟨rfl, rfl, rfl, by simp, fun k hk => setRow_other w g k cs (by omega)⟩

theorem size69 : (Try.prog.info? 69).map (·.size) = some 16 := by kernel_rfl

/-! ### Tables and take -/
theorem first_any (W : World) : Calls Try.prog 85 #[] W fun e w' => ∃ (A : Option Addr) (c : Nat), e = .returned (.slice A 56 c) ∧ Kd.C (Kd.int .u8) w' A 56 (ns tK1) ∧ 56 ≤ c ∧ Below W.heap.size W w' := by
  refine (cipher_first.calls _ W first_eval).mono ?_
  rintro e w' ⟨v, rfl, hR, hb⟩
  obtain ⟨A, c, rfl⟩ := Kd.R_slice hR
  exact ⟨A, c, rfl, (Kd.R_reads' hR).2.2, (Kd.R_reads' hR).2.1, hb⟩
theorem second_any (W : World) : Calls Try.prog 87 #[] W fun e w' => ∃ (A : Option Addr) (c : Nat), e = .returned (.slice A 48 c) ∧ Kd.C (Kd.int .u8) w' A 48 (ns tK2) ∧ 48 ≤ c ∧ Below W.heap.size W w' := by
  refine (cipher_second.calls _ W second_eval).mono ?_
  rintro e w' ⟨v, rfl, hR, hb⟩
  obtain ⟨A, c, rfl⟩ := Kd.R_slice hR
  exact ⟨A, c, rfl, (Kd.R_reads' hR).2.2, (Kd.R_reads' hR).2.1, hb⟩
theorem enter_any (W : World) : Calls Try.prog 105 #[] W fun e w' => ∃ (A : Option Addr) (c : Nat), e = .returned (.slice A 64 c) ∧ Kd.C (Kd.int .u8) w' A 64 (ns tIn) ∧ 64 ≤ c ∧ Below W.heap.size W w' := by
  refine (cipher_enter.calls _ W enter_eval).mono ?_
  rintro e w' ⟨v, rfl, hR, hb⟩
  obtain ⟨A, c, rfl⟩ := Kd.R_slice hR
  exact ⟨A, c, rfl, (Kd.R_reads' hR).2.2, (Kd.R_reads' hR).2.1, hb⟩
theorem leave_any (W : World) : Calls Try.prog 108 #[] W fun e w' => ∃ (A : Option Addr) (c : Nat), e = .returned (.slice A 64 c) ∧ Kd.C (Kd.int .u8) w' A 64 (ns tOut) ∧ 64 ≤ c ∧ Below W.heap.size W w' := by
  refine (cipher_leave.calls _ W leave_eval).mono ?_
  rintro e w' ⟨v, rfl, hR, hb⟩
  obtain ⟨A, c, rfl⟩ := Kd.R_slice hR
  exact ⟨A, c, rfl, (Kd.R_reads' hR).2.2, (Kd.R_reads' hR).2.1, hb⟩
theorem spread_any (W : World) : Calls Try.prog 106 #[] W fun e w' => ∃ (A : Option Addr) (c : Nat), e = .returned (.slice A 32 c) ∧ Kd.C (Kd.int .u8) w' A 32 (ns tP) ∧ 32 ≤ c ∧ Below W.heap.size W w' := by
  refine (cipher_spread.calls _ W spread_eval).mono ?_
  rintro e w' ⟨v, rfl, hR, hb⟩
  obtain ⟨A, c, rfl⟩ := Kd.R_slice hR
  exact ⟨A, c, rfl, (Kd.R_reads' hR).2.2, (Kd.R_reads' hR).2.1, hb⟩

theorem take_any (T : List Nat) (m wd n : Nat) (hm : T.length = m) (hT : ∀ t ∈ T, 1 ≤ t ∧ t ≤ wd) (hw : wd ≤ 64) (hn : n < 2 ^ 64) (hl : T.length ≤ 64)
    (A : Option Addr) (c : Nat) (W : World) (hC : Kd.C (Kd.int .u8) W A m (ns T)) (hc : m ≤ c) :
    Calls Try.prog 84 #[.slice A m c, .int .u64 (n : Int), .int .i64 (wd : Int)] W fun e w' => e = .returned (.int .u64 ((num (sel T (bitsN wd n)) : Nat) : Int)) ∧ Below W.heap.size W w' := by
  subst hm
  have hns : (ns T).length = T.length := ns_length T
  have h := cipher_take.calls 65 A c (ns T) (n : Int) (wd : Int) _ W (by rw [hns]; exact hC) (by rw [hns]; exact hc) (take_eval T wd n 65 hT hw hn hl (by omega))
  rw [hns] at h
  exact h.mono fun e w' ⟨he, hd⟩ => ⟨he, hd.below⟩
theorem number_any (s : ByteArray) (hs : 8 ≤ s.size) (W : World) :
    Calls Try.prog 68 #[.string s] W fun e w' => e = .returned (.int .u64 ((num (bitsB (s.data.toList.take 8)) : Nat) : Int)) ∧ Below W.heap.size W w' :=
  (cipher_number.calls 9 s _ W (number_eval s hs 9 (by decide))).mono fun e w' ⟨he, hd⟩ => ⟨he, hd.below⟩
theorem half_any (n s : Nat) (hn : n < 2 ^ 28) (hs : s = 1 ∨ s = 2) (W : World) :
    Calls Try.prog 86 #[.int .u64 (n : Int), .int .i64 (s : Int)] W fun e w' => e = .returned (.int .u64 ((num (rot s (bitsN 28 n)) : Nat) : Int)) ∧ Below W.heap.size W w' :=
  (cipher_half.calls _ _ _ W (half_go n s hn hs)).mono fun e w' ⟨he, hd⟩ => ⟨he, hd.below⟩
theorem mixed_any (r key : Nat) (hr : r < 2 ^ 32) (hkey : key < 2 ^ 48) (A : Option Addr) (c : Nat) (W : World) (hC : Kd.C (Kd.int .u8) W A 32 (ns tP)) (hc : 32 ≤ c) :
    Calls Try.prog 107 #[.int .u32 (r : Int), .int .u64 (key : Int), .slice A 32 c] W fun e w' => e = .returned (.int .u32 ((num (F (bitsN 32 r) (bitsN 48 key)) : Nat) : Int)) ∧ Below W.heap.size W w' :=
  (cipher_mixed.calls 42 _ _ A c (ns tP) _ W hC hc (mixed_eval r key 42 hr hkey (by decide))).mono fun e w' ⟨he, hd⟩ => ⟨he, hd.below⟩
end Go.Proofs.Ytopobangjpehnaa.Walk
