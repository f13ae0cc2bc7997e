/- cipher.New: what lies in memory behind a key made ready. -/
import Derived.Test.YtopobangjpehnaaSched
import Derived.StillTailTactics
import Derived.Lib.Strings
set_option linter.unusedVariables false
set_option linter.unusedSimpArgs false
namespace Go.Proofs.Ytopobangjpehnaa.Walk
open Go.RowKit Go.Proofs.YtopobangjpehnaaW.PrintWords Go.Proofs.YtopobangjpehnaaW.PrintLast Go.Proofs.YtopobangjpehnaaW.PrintMore Pr Des Num

theorem wpStill_load_part {P : Program} {ops : Array Oper} {rest : List Oper} {op : Oper} {a : Act} {w : World} {Q : Act → Prop} (hgd : op.guard = none) (ty : TypeId) (x : Operand) (ho : op.op = .load ty x) {g o n : Nat} (hx : a.eval x = .pointer (some ⟨g, o, none⟩))
    {t : TypeId} {cs : Array Value} {d : TypeDesc} (hg : Blk w g t cs) (hn : o + n ≤ cs.size) (hu : P.underlying ty = some d) (hd : (match d with | .struct _ | .array _ _ => true | _ => false) = true)
    (hi : (P.info? ty).map (·.size) = some n) (h : wpStill P ops w Q rest (a.put op.dst (.agg (cs.extract o (o + n))))) : wpStill P ops w Q (op :: rest) a := by
  refine wpStill_step fun K hK => ?_
  rw [if_pos (by simp [Region.wanted, hgd])]
  unfold Oper.still execOp
  simp only [ho, hx, Instr.loadAt, Instr.sureAddr, Sem.run_bind, Sem.run_pure, Result.andThen_ok, run_load_part hg hn hu hd hi]
  refine (Oper.stillUpon_value ..).symm ▸ hK _ h
def Z16 : Array Value := #[.int .u64 0, .int .u64 0, .int .u64 0, .int .u64 0, .int .u64 0, .int .u64 0, .int .u64 0, .int .u64 0, .int .u64 0, .int .u64 0, .int .u64 0, .int .u64 0, .int .u64 0, .int .u64 0, .int .u64 0, .int .u64 0]
def partAt (key : List UInt8) (j : Nat) : List Bool := bitsB ((key.drop (8 * j)).take 8)
def partCells (key : List UInt8) (i j : Nat) : Array Value := if j < i then keyCells (partAt key j) 16 else Z16
def mid (key : List UInt8) (i : Nat) (kind : Int) : Array Value := partCells key i 0 ++ partCells key i 1 ++ partCells key i 2 ++ #[.int .i64 kind]
theorem partCells_size (key : List UInt8) (i j : Nat) : (partCells key i j).size = 16 := by
  unfold partCells
  split
  · exact keyCells_size _ _
  · rfl
theorem mid_size (key : List UInt8) (i : Nat) (kind : Int) : (mid key i kind).size = 49 := by
  simp only [mid, Array.size_append, partCells_size]; rfl
theorem mid_zero (key : List UInt8) (kind : Int) : mid key 0 kind = #[.int .u64 0, .int .u64 0, .int .u64 0, .int .u64 0, .int .u64 0, .int .u64 0, .int .u64 0, .int .u64 0, .int .u64 0, .int .u64 0, .int .u64 0, .int .u64 0, .int .u64 0, .int .u64 0, .int .u64 0, .int .u64 0, .int .u64 0, .int .u64 0, .int .u64 0, .int .u64 0, .int .u64 0, .int .u64 0, .int .u64 0, .int .u64 0, .int .u64 0, .int .u64 0, .int .u64 0, .int .u64 0, .int .u64 0, .int .u64 0, .int .u64 0, .int .u64 0, .int .u64 0, .int .u64 0, .int .u64 0, .int .u64 0, .int .u64 0, .int .u64 0, .int .u64 0, .int .u64 0, .int .u64 0, .int .u64 0, .int .u64 0, .int .u64 0, .int .u64 0, .int .u64 0, .int .u64 0, .int .u64 0, .int .i64 kind] := by
  simp [mid, partCells, Z16]
theorem blk_zero (w : World) (key : List UInt8) (kind : Int) : Blk (w.alloc (.cells #[.int .u64 0, .int .u64 0, .int .u64 0, .int .u64 0, .int .u64 0, .int .u64 0, .int .u64 0, .int .u64 0, .int .u64 0, .int .u64 0, .int .u64 0, .int .u64 0, .int .u64 0, .int .u64 0, .int .u64 0, .int .u64 0, .int .u64 0, .int .u64 0, .int .u64 0, .int .u64 0, .int .u64 0, .int .u64 0, .int .u64 0, .int .u64 0, .int .u64 0, .int .u64 0, .int .u64 0, .int .u64 0, .int .u64 0, .int .u64 0, .int .u64 0, .int .u64 0, .int .u64 0, .int .u64 0, .int .u64 0, .int .u64 0, .int .u64 0, .int .u64 0, .int .u64 0, .int .u64 0, .int .u64 0, .int .u64 0, .int .u64 0, .int .u64 0, .int .u64 0, .int .u64 0, .int .u64 0, .int .u64 0, .int .i64 kind] 72)) w.heap.size 72 (mid key 0 kind) := by
  rw [mid_zero]; exact Blk.new w 72 _
theorem mid_kind (key : List UInt8) (i : Nat) (kind : Int) : (mid key i kind)[48]? = some (.int .i64 kind) := by
  unfold mid
  rw [Array.getElem?_append_right (by simp only [Array.size_append, partCells_size]; decide)]
  simp only [Array.size_append, partCells_size]
  rfl
theorem slice_eight (s : ByteArray) (i : Nat) (h : 8 * i + 8 ≤ s.size) (hm : 8 * i < 1000) (w : World) :
    (Instr.slice 9 (.string s) (some (.int .i64 (IntKind.i64.wrap (8 * (i : Int))))) (some (.int .i64 (IntKind.i64.wrap (IntKind.i64.wrap (8 * (i : Int)) + 8)))) none).run Try.prog w = .ok (.string (s.extract (8 * i) (8 * i + 8))) w := by
  have e1 : IntKind.i64.wrap (8 * (i : Int)) = 8 * (i : Int) := IntWalk.i64_in _ (by omega)
  have e2 : IntKind.i64.wrap (8 * (i : Int) + 8) = 8 * (i : Int) + 8 := IntWalk.i64_in _ (by omega)
  rw [e1, e2, run_slice_string (P := Try.prog) w 9 s .i64 .i64 _ _ Try.underlying9 (by omega) (by omega) (by omega)]
  congr 3
theorem seg_step {α : Type} (a b c : List α) (v : List α) (n m : Nat) (ha : a.length = n) (hb : b.length = m) : (a ++ b ++ c).take n ++ v ++ (a ++ b ++ c).drop (n + m) = a ++ v ++ c := by
  subst ha; subst hb
  rw [List.append_assoc a b c, List.take_left, ← List.append_assoc a b c, List.drop_left' (by rw [List.length_append])]
theorem mid_store (key : List UInt8) (i : Nat) (kind : Int) (hi : i < 3) :
    ((mid key i kind).toList.take (i * 16) ++ (keyCells (partAt key i) 16).toList ++ (mid key i kind).toList.drop (i * 16 + (keyCells (partAt key i) 16).size)).toArray = mid key (i + 1) kind := by
  rw [keyCells_size]
  have hl : ∀ j, (partCells key i j).toList.length = 16 := fun j => by rw [Array.length_toList, partCells_size]
  have hone : ∀ j, j ≠ i → partCells key (i + 1) j = partCells key i j := by
    intro j hj
    unfold partCells
    by_cases h : j < i
    · rw [if_pos h, if_pos (by omega)]
    · rw [if_neg h, if_neg (by omega)]
  have hnew : partCells key (i + 1) i = keyCells (partAt key i) 16 := by unfold partCells; rw [if_pos (by omega)]
  apply Array.toList_inj.1 |> fun h => h ?_
  have h3 : i = 0 ∨ i = 1 ∨ i = 2 := by omega
  simp only [mid, Array.toList_append, List.toList_toArray]
  rcases h3 with rfl | rfl | rfl
  · have := seg_step [] (partCells key 0 0).toList ((partCells key 0 1).toList ++ (partCells key 0 2).toList ++ [Value.int .i64 kind]) (keyCells (partAt key 0) 16).toList 0 16 rfl (hl 0)
    rw [hone 1 (by decide), hone 2 (by decide), hnew]
    simpa only [List.nil_append, List.append_assoc] using this
  · have := seg_step (partCells key 1 0).toList (partCells key 1 1).toList ((partCells key 1 2).toList ++ [Value.int .i64 kind]) (keyCells (partAt key 1) 16).toList 16 16 (hl 0) (hl 1)
    rw [hone 0 (by decide), hone 2 (by decide), hnew]
    simpa only [List.append_assoc] using this
  · have := seg_step ((partCells key 2 0).toList ++ (partCells key 2 1).toList) (partCells key 2 2).toList [Value.int .i64 kind] (keyCells (partAt key 2) 16).toList 32 16 (by rw [List.length_append, hl, hl]) (hl 2)
    rw [hone 0 (by decide), hone 1 (by decide), hnew]
    simpa only [List.append_assoc] using this
theorem keyCells_one (key : List Bool) : ∀ v ∈ (keyCells key 16).toList, v.oneCell' = true := by
  intro v hv
  simp only [keyCells, List.toList_toArray, List.mem_map, List.mem_range] at hv
  obtain ⟨j, hj, rfl⟩ := hv
  rw [if_pos hj]; rfl

theorem run_mid_store {w : World} {g : Nat} {key : List UInt8} {i : Nat} {kind : Int} (hi : i < 3) (hg : Blk w g 72 (mid key i kind)) :
    (storeCells ⟨g, i * 16, none⟩ (keyCells (partAt key i) 16).toList).run Try.prog w = .ok () (w.setRow g (mid key (i + 1) kind)) := by
  have h := run_storeCells_at Try.prog g (i * 16) 72 (keyCells (partAt key i) 16).toList 0 (mid key i kind) w hg (by rw [Array.length_toList, keyCells_size, mid_size]; omega) (keyCells_one _)
  rw [h, Nat.add_zero, Array.length_toList, mid_store key i kind hi]
/-- How many parts a key has. -/
def kindOf (key : List UInt8) : Nat := if key.length = 8 then 1 else if key.length = 16 then 2 else if key.length = 24 then 3 else 0
theorem kind_any (s : ByteArray) (W : World) : Calls Try.prog 57 #[.string s] W fun e w' => e = .returned (.int .i64 ((kindOf s.data.toList : Nat) : Int)) ∧ Below W.heap.size W w' := by
  have e : s.data.toList.length = s.size := by rw [Array.length_toList]; rfl
  refine (cipher_kind.calls s ((kindOf s.data.toList : Nat) : Int) W ?_).mono fun e w' ⟨he, hd⟩ => ⟨he, hd.below⟩
  unfold cipher_kind.f kindOf
  rw [e]
  by_cases h1 : s.size = 8
  · rw [if_pos (by omega), if_pos h1]; rfl
  · by_cases h2 : s.size = 16
    · rw [if_neg (by omega), if_pos (by omega), if_neg h1, if_pos h2]; rfl
    · by_cases h3 : s.size = 24
      · rw [if_neg (by omega), if_neg (by omega), if_pos (by omega), if_neg h1, if_neg h2, if_pos h3]; rfl
      · rw [if_neg (by omega), if_neg (by omega), if_neg (by omega), if_neg h1, if_neg h2, if_neg h3]; rfl

def partOf (key : List UInt8) (j : Nat) : List Bool := if kindOf key = 2 ∧ j = 2 then partAt key 0 else partAt key j
def keyBlock (key : List UInt8) : Array Value :=
  if kindOf key = 1 then keyCells (partAt key 0) 16 ++ Z16 ++ Z16 ++ #[.int .i64 1]
  else keyCells (partOf key 0) 16 ++ keyCells (partOf key 1) 16 ++ keyCells (partOf key 2) 16 ++ #[.int .i64 ((kindOf key : Nat) : Int)]
theorem mid_first (key : List UInt8) (i : Nat) (kind : Int) (hi : 0 < i) : (mid key i kind).extract 0 (0 + 16) = keyCells (partAt key 0) 16 := by
  have e : mid key i kind = partCells key i 0 ++ (partCells key i 1 ++ partCells key i 2 ++ #[.int .i64 kind]) := by simp only [mid, Array.append_assoc]
  have hp : partCells key i 0 = keyCells (partAt key 0) 16 := by unfold partCells; rw [if_pos hi]
  rw [e, hp]
  have hl : (keyCells (partAt key 0) 16).toList.length = 16 := by rw [Array.length_toList, keyCells_size]
  generalize keyCells (partAt key 0) 16 = A at hl
  apply Array.toList_inj.1 |> fun h => h ?_
  rw [Array.toList_extract, Array.toList_append, List.extract_eq_take_drop, List.drop_zero, show 0 + 16 - 0 = 16 from rfl, ← hl, List.take_left]
theorem mid_two (key : List UInt8) (hk : kindOf key = 2) :
    ((mid key 2 ((2 : Nat) : Int)).toList.take 32 ++ (keyCells (partAt key 0) 16).toList ++ (mid key 2 ((2 : Nat) : Int)).toList.drop (32 + (keyCells (partAt key 0) 16).size)).toArray = keyBlock key := by
  have hl : ∀ j, (partCells key 2 j).toList.length = 16 := fun j => by rw [Array.length_toList, partCells_size]
  rw [keyCells_size]
  apply Array.toList_inj.1 |> fun h => h ?_
  unfold keyBlock
  rw [if_neg (by omega), hk]
  have h0 : partOf key 0 = partAt key 0 := by unfold partOf; rw [if_neg (by omega)]
  have h1 : partOf key 1 = partAt key 1 := by unfold partOf; rw [if_neg (by omega)]
  have h2 : partOf key 2 = partAt key 0 := by unfold partOf; rw [if_pos ⟨hk, rfl⟩]
  have := seg_step ((partCells key 2 0).toList ++ (partCells key 2 1).toList) (partCells key 2 2).toList [Value.int .i64 ((2 : Nat) : Int)] (keyCells (partAt key 0) 16).toList 32 16 (by rw [List.length_append, hl, hl]) (hl 2)
  rw [h0, h1, h2]
  simp only [mid, Array.toList_append, List.toList_toArray]
  rw [show (partCells key 2 0) = keyCells (partAt key 0) 16 from rfl, show (partCells key 2 1) = keyCells (partAt key 1) 16 from rfl] at this ⊢
  simpa only [List.append_assoc] using this
theorem mid_else (key : List UInt8) (n : Nat) (hk : kindOf key = n) (h1 : 1 ≤ n) (h2 : ¬ n = 2) (h3 : n ≤ 3) : mid key n (n : Int) = keyBlock key := by
  unfold keyBlock
  have h : n = 1 ∨ n = 3 := by omega
  rcases h with rfl | rfl
  · rw [if_pos hk]; rfl
  · rw [if_neg (by omega), hk]
    have h0 : partOf key 0 = partAt key 0 := by unfold partOf; rw [if_neg (by omega)]
    have h1 : partOf key 1 = partAt key 1 := by unfold partOf; rw [if_neg (by omega)]
    have h2 : partOf key 2 = partAt key 2 := by unfold partOf; rw [if_neg (by omega)]
    rw [h0, h1, h2]; rfl
set_option maxHeartbeats 1000000 in
set_option maxRecDepth 100000 in
theorem new_no (s : ByteArray) (hk : kindOf s.data.toList = 0) (w : World) :
    Calls Try.prog 29 #[.string s] w fun e w' => e = .returned (.tuple #[.pointer none, .int .i64 30]) ∧ Below w.heap.size w w' := by
  have HK := Aside0.mk hk
  clear hk
  go_enter Try.func29, Try.ntmps29
  go_wp2_with fail
  refine (kind_any s _).mono ?_
  rintro e w1 ⟨rfl, hb1⟩
  have B1 := Aside0.mk hb1
  clear hb1
  rw [HK.out]
  go_wp2_with fail
  go_ret2
  exact ⟨rfl, B1.out.alloc B1.out.size _⟩

set_option maxHeartbeats 2000000 in
set_option maxRecDepth 100000 in
theorem new_yes (s : ByteArray) (hk : 1 ≤ kindOf s.data.toList) (w : World) :
    Calls Try.prog 29 #[.string s] w fun e w' => ∃ g, e = .returned (.tuple #[.pointer (some ⟨g, 0, none⟩), .int .i64 0]) ∧ w.heap.size ≤ g ∧ Blk w' g 72 (keyBlock s.data.toList) ∧ Below w.heap.size w w' := by
  have HS : Aside0 (kindOf s.data.toList ≤ 3 ∧ s.size = 8 * kindOf s.data.toList) := by
    have e : s.data.toList.length = s.size := by rw [Array.length_toList]; rfl
    unfold kindOf at hk ⊢
    rw [e] at hk ⊢
    refine ⟨?_, ?_⟩ <;> repeat' split
    all_goals first | omega | (simp_all; done)
  generalize hn : kindOf s.data.toList = n at *
  have HN := Aside0.mk hn
  clear hn
  have hn3 : n ≤ 3 := HS.out.1
  go_enter Try.func29, Try.ntmps29
  go_wp2_with fail
  refine (kind_any s _).mono ?_
  rintro e w1 ⟨rfl, hb1⟩
  have B1 := Aside0.mk hb1
  clear hb1
  rw [HN.out]
  have hb : ((n : Int) == 0) = false := by rw [beq_eq_false_iff_ne]; omega
  go_wp2_with fail
  go_loopw [19] (fun v19 wr => ∃ i : Nat, i ≤ n ∧ v19 = .int .i64 i ∧ Aside0 (Blk wr w1.heap.size 72 (mid s.data.toList i n)) ∧ Aside0 (Below w.heap.size w wr)) (fun i _ => n - (intOf i).toNat)
  case atStart => exact ⟨0, by omega, rfl, ⟨blk_zero w1 s.data.toList n⟩, ⟨B1.out.alloc B1.out.size _⟩⟩
  case round =>
    have hB1 := Aside0.mk B1.out.size
    clear B1
    obtain ⟨i, hi, rfl, G, B⟩ := hrel
    by_cases hlt : i < n
    · have hsz : (s.extract (8 * i) (8 * i + 8)).size = 8 := by rw [ByteArray.size_extract]; have := HS.out.2; omega
      have HZ := Aside0.mk hsz
      have HD : Aside0 (bitsB (s.extract (8 * i) (8 * i + 8)).data.toList = partAt s.data.toList i) := ⟨by
        rw [Go.Lib.extract_data, show 8 * i + 8 - 8 * i = 8 by omega]; rfl⟩
      have h1 : 8 * i ≤ s.size := by have := HS.out.2; omega
      have h2 : 8 * i + 8 ≤ s.size := by have := HS.out.2; omega
      clear hsz
      have hsl := slice_eight s i h2 (by omega)
      go_wp2_with fail
      go_region_with (go_at_call 58; refine (scheduled_calls _ HZ.out _).mono ?_; rintro e w4 ⟨rfl, hb4⟩; rw [HD.out]; have G4 := Aside0.mk (G.out.step (w := wr) (w' := w4) ⟨hb4.os, hb4.tape, hb4.output, hb4.size, hb4.block⟩); have B4 := Aside0.mk (B.out.trans (Below.mono (w := wr) (w' := w4) (B := wr.heap.size) ⟨hb4.os, hb4.tape, hb4.output, hb4.size, hb4.block⟩ B.out.size)); clear hb4; have hst := run_mid_store (show i < 3 by omega) G4.out)
      go_wp2
      exact ⟨⟨i + 1, by omega, by go_num, ⟨G4.out.setRow _⟩, ⟨below_setRow' B4.out hB1.out _⟩⟩, by simp [intOf]; omega⟩
    · obtain rfl : i = n := by omega
      have q48 : wr.cell? ⟨w1.heap.size, 48, none⟩ = some (.int .i64 ((i : Nat) : Int)) := (G.out.cell 48).trans (mid_kind _ _ _)
      by_cases h2 : i = 2
      · subst h2
        have G2 := G.out.drew
        go_wp2_with fail
        go_still_tail 9, (by kernel_rfl)
        refine wpStill_load_part rfl 69 (.tmp 45) rfl (o := 0) (n := 16) rfl G2 (by rw [mid_size]; decide) Try.underlying69 rfl size69 ?_
        repeat still_step
        refine wpStill_nil ?_
        rw [mid_first _ _ _ (by decide)]
        refine wpList_store_part rfl 69 (.tmp 49) (.tmp 46) rfl (o := 32) rfl rfl G2 (by rw [mid_size, keyCells_size]; decide) (by rw [keyCells_size]; exact size69) (keyCells_one _) ?_
        rw [mid_two _ HN.out]
        have G5 := Aside0.mk (G2.setRow (keyBlock s.data.toList))
        have B5 := Aside0.mk (below_setRow' B.out.drew hB1.out (keyBlock s.data.toList))
        clear G2 G B q48
        go_wp2
        go_ret2
        exact ⟨_, rfl, hB1.out, G5.out, B5.out⟩
      · have hb2 : ((i : Int) == 2) = false := by rw [beq_eq_false_iff_ne]; omega
        have G5 := G.out
        rw [mid_else _ _ HN.out hk h2 HS.out.1] at G5
        have G6 := Aside0.mk G5
        clear G5
        go_wp2_with fail
        go_ret2
        exact ⟨_, rfl, hB1.out, G6.out, B.out⟩
end Go.Proofs.Ytopobangjpehnaa.Walk
