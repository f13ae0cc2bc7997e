/- The law's own small functions of layer 4: pick, fitted. -/
import Derived.Test.YtopobangjpehnaaGreatTag
import Derived.Test.YtopobangjpehnaaGreatPrM
import Derived.StillTailTactics
set_option linter.unusedVariables false
set_option linter.unusedSimpArgs false
namespace Go.Proofs.YtopobangjpehnaaGreat.Seal
open Go.RowKit Go.Proofs.YtopobangjpehnaaGreatW.PrintWords Go.Proofs.YtopobangjpehnaaGreatW.PrintLast Go.Proofs.YtopobangjpehnaaGreatW.PrintMore Pr Des Num Walk

theorem pick4_any (c n : Int) (hc : -9223372036854775808 ≤ c ∧ c ≤ 9223372036854775807) (hn : 1 ≤ n) (hn2 : n ≤ 9223372036854775807) :
    ∃ r : Nat, (r : Int) < n ∧ ∀ W : World, Calls Tryz.prog 6 #[.int .i64 c, .int .i64 n] W fun e w' => e = .returned (.int .i64 (r : Int)) ∧ Below W.heap.size W w' := by
  have h : ∃ r : Int, 0 ≤ r ∧ r < n ∧ turnstilelaw4_pick.f c n = some r := by
    unfold turnstilelaw4_pick.f
    by_cases h0 : c < 0
    · have e1 : wrap64 (c + 1) = c + 1 := by unfold wrap64; omega
      have e2 : wrap64 (-(c + 1)) = -(c + 1) := by unfold wrap64; omega
      rw [if_pos h0, if_neg (by omega), e1, e2]
      exact ⟨_, Int.tmod_nonneg _ (by omega), Int.tmod_lt_of_pos _ (by omega), rfl⟩
    · rw [if_neg h0, if_neg (by omega)]
      exact ⟨_, Int.tmod_nonneg _ (by omega), Int.tmod_lt_of_pos _ (by omega), rfl⟩
  obtain ⟨r, h1, h2, h3⟩ := h
  obtain ⟨m, rfl⟩ := Int.eq_ofNat_of_zero_le h1
  exact ⟨m, h2, fun W => (turnstilelaw4_pick.calls c n _ W h3).mono fun e w' ⟨he, hd⟩ => ⟨he, hd.below⟩⟩

/-- Bytes as cells. -/
def bcells (l : List UInt8) : Array Value := (l.map fun b => Value.int .u8 ((b.toNat : Nat) : Int)).toArray
theorem bcells_set (l : List UInt8) (i : Nat) (b : UInt8) : (bcells l).setIfInBounds i (.int .u8 ((b.toNat : Nat) : Int)) = bcells (l.set i b) := by
  simp [bcells, List.map_set]
theorem bcells_get (l : List UInt8) (i : Nat) (h : i < l.length) : (bcells l)[i]? = some (.int .u8 ((l[i].toNat : Nat) : Int)) := by
  simp [bcells, h]
theorem bcells_string {w : World} {g c : Nat} {l : List UInt8} (h : Blk w g 5 (bcells l)) (hm : l.length ≤ 9223372036854775807) : (convert 68 9 (.slice (some ⟨g, 0, none⟩) l.length c)).run Tryz.prog w = .ok (.string (lst l)) w := by
  have hr : ReadsInt w .u8 (some ⟨g, 0, none⟩) l.length (ints l) := by
    refine ⟨by simp [ints], hm, fun h0 => ⟨_, rfl, fun j hj => ?_⟩⟩
    rw [addr_add, Nat.zero_add, h.cell, bcells_get l j hj]
    congr 2
    simp [ints, List.getD_eq_getElem?_getD, hj]
  rw [string_of_reads Tryz.underlying68 Tryz.underlying5 Tryz.underlying9 hr, strOfNums_ints]
  rfl
/-- The byte i of what is fitted. -/
def fitAt (s : ByteArray) (i : Nat) : UInt8 := if s.size = 0 then UInt8.ofNat (17 * i) else s.data.toList.getD (i % s.size) 0 + UInt8.ofNat (i / s.size)
def fitTo (s : ByteArray) (n i : Nat) : List UInt8 := (List.range n).map fun j => if j < i then fitAt s j else 0
def fitS (s : ByteArray) (n : Nat) : ByteArray := lst (fitTo s n n)
theorem fitTo_length (s : ByteArray) (n i : Nat) : (fitTo s n i).length = n := by simp [fitTo]
theorem fitS_size (s : ByteArray) (n : Nat) : (fitS s n).size = n := by unfold fitS; rw [lst_size, fitTo_length]
theorem fitTo_set (s : ByteArray) (n i : Nat) (h : i < n) (x : UInt8) (hx : x = fitAt s i) : (fitTo s n i).set i x = fitTo s n (i + 1) := by
  subst hx
  apply List.ext_getElem
  · simp [fitTo]
  · intro j h1 h2
    rw [List.length_set, fitTo_length] at h1
    simp only [fitTo, List.getElem_set, List.getElem_map, List.getElem_range]
    by_cases e : i = j
    · subst e; simp
    · rw [if_neg e]
      by_cases hj : j < i
      · rw [if_pos hj, if_pos (by omega)]
      · rw [if_neg hj, if_neg (by omega)]
theorem fit_first (i : Nat) (h : i < 16) : (UInt8.ofNat (17 * i)).toNat = 17 * i := by
  rw [UInt8.toNat_ofNat']; omega

set_option maxHeartbeats 2000000 in
set_option maxRecDepth 100000 in
theorem fitted_none8 (s : ByteArray) (h0 : s.size = 0) (w : World) :
    Calls Tryz.prog 15 #[.string s, .int .i64 8] w fun e w' => e = .returned (.string (fitS s 8)) ∧ Below w.heap.size w w' := by
  have hmk : ∀ w : World, (Instr.makeSlice 68 (.int .i64 8) (.int .i64 8)).run Tryz.prog w = .ok (.slice (some ⟨w.heap.size, 0, none⟩) 8 8) (w.alloc (.cells (bcells (fitTo s 8 0)) 5)) := fun w => by
    rw [show bcells (fitTo s 8 0) = #[.int .u8 0, .int .u8 0, .int .u8 0, .int .u8 0, .int .u8 0, .int .u8 0, .int .u8 0, .int .u8 0] from rfl]
    kernel_rfl
  have H0 := Aside0.mk h0
  have b0 : (0 < s.size) = False := by rw [h0]; simp
  have G : Aside0 (Blk (w.alloc (.cells (bcells (fitTo s 8 0)) 5)) w.heap.size 5 (bcells (fitTo s 8 0))) := ⟨Blk.new w 5 _⟩
  have B : Aside0 (Below w.heap.size w (w.alloc (.cells (bcells (fitTo s 8 0)) 5))) := ⟨below_alloc (Below.refl _ _) _⟩
  clear h0
  go_enter Tryz.func15, Tryz.ntmps15
  go_wp2_with fail
  generalize w.alloc (.cells (bcells (fitTo s 8 0)) 5) = w1 at *
  clear hmk
  go_loopw [6] (fun v6 wr => ∃ i : Nat, i ≤ 8 ∧ v6 = .int .i64 (i : Int) ∧ Aside0 (Blk wr w.heap.size 5 (bcells (fitTo s 8 i))) ∧ Aside0 (Below w.heap.size w wr)) (fun v6 _ => 8 - (intOf v6).toNat)
  case atStart => exact ⟨0, by omega, rfl, G, B⟩
  case round =>
    clear G B
    obtain ⟨i, hi, rfl, G, B⟩ := hrel
    by_cases hlt : i < 8
    · have q1 : wr.cell? ⟨w.heap.size, i, none⟩ = some (.int .u8 (((fitTo s 8 i)[i]'(by rw [fitTo_length]; exact hlt)).toNat : Nat)) := (G.out.cell i).trans (bcells_get _ i (by rw [fitTo_length]; exact hlt))
      have q2 : wr.frozen? ⟨w.heap.size, i, none⟩ = false := G.out.frozen i
      have G' : Aside0 (Blk (wr.setCell ⟨w.heap.size, i, none⟩ (.int .u8 (17 * (i : Int)))) w.heap.size 5 (bcells (fitTo s 8 (i + 1)))) := ⟨by
        have h := G.out.set_ i (.int .u8 (((UInt8.ofNat (17 * i)).toNat : Nat) : Int))
        rw [bcells_set, fitTo_set s 8 i hlt _ (by unfold fitAt; rw [if_pos H0.out]), fit_first i (by omega)] at h
        exact h⟩
      have B' : Aside0 (Below w.heap.size w (wr.setCell ⟨w.heap.size, i, none⟩ (.int .u8 (17 * (i : Int))))) := ⟨B.out.setCell (Nat.le_refl _) _⟩
      go_wp2_with fail
      exact ⟨⟨i + 1, by omega, by go_num, G', B'⟩, by simp [intOf]; omega⟩
    · obtain rfl : i = 8 := by omega
      have hcv := bcells_string (c := 8) G.out (by rw [fitTo_length]; decide)
      rw [fitTo_length] at hcv
      rw [show lst (fitTo s 8 8) = fitS s 8 from rfl] at hcv
      go_wp2_with fail
      go_ret
      exact ⟨rfl, B.out⟩
set_option maxHeartbeats 2000000 in
set_option maxRecDepth 100000 in
theorem fitted_some8 (s : ByteArray) (h0 : 0 < s.size) (hm : s.size ≤ 140737488355000) (w : World) :
    Calls Tryz.prog 15 #[.string s, .int .i64 8] w fun e w' => e = .returned (.string (fitS s 8)) ∧ Below w.heap.size w w' := by
  have hmk : ∀ w : World, (Instr.makeSlice 68 (.int .i64 8) (.int .i64 8)).run Tryz.prog w = .ok (.slice (some ⟨w.heap.size, 0, none⟩) 8 8) (w.alloc (.cells (bcells (fitTo s 8 0)) 5)) := fun w => by
    rw [show bcells (fitTo s 8 0) = #[.int .u8 0, .int .u8 0, .int .u8 0, .int .u8 0, .int .u8 0, .int .u8 0, .int .u8 0, .int .u8 0] from rfl]
    kernel_rfl
  have G : Aside0 (Blk (w.alloc (.cells (bcells (fitTo s 8 0)) 5)) w.heap.size 5 (bcells (fitTo s 8 0))) := ⟨Blk.new w 5 _⟩
  have B : Aside0 (Below w.heap.size w (w.alloc (.cells (bcells (fitTo s 8 0)) 5))) := ⟨below_alloc (Below.refl _ _) _⟩
  go_enter Tryz.func15, Tryz.ntmps15
  go_wp2_with fail
  generalize w.alloc (.cells (bcells (fitTo s 8 0)) 5) = w1 at *
  clear hmk
  go_loopw [6] (fun v6 wr => ∃ i : Nat, i ≤ 8 ∧ v6 = .int .i64 (i : Int) ∧ Aside0 (Blk wr w.heap.size 5 (bcells (fitTo s 8 i))) ∧ Aside0 (Below w.heap.size w wr)) (fun v6 _ => 8 - (intOf v6).toNat)
  case atStart => exact ⟨0, by omega, rfl, G, B⟩
  case round =>
    clear G B
    obtain ⟨i, hi, rfl, G, B⟩ := hrel
    by_cases hlt : i < 8
    · have q1 : wr.cell? ⟨w.heap.size, i, none⟩ = some (.int .u8 (((fitTo s 8 i)[i]'(by rw [fitTo_length]; exact hlt)).toNat : Nat)) := (G.out.cell i).trans (bcells_get _ i (by rw [fitTo_length]; exact hlt))
      have q2 : wr.frozen? ⟨w.heap.size, i, none⟩ = false := G.out.frozen i
      have bz : ((s.size : Int) == 0) = false := by rw [beq_eq_false_iff_ne]; omega
      obtain ⟨r, hr⟩ : ∃ r, i % s.size = r := ⟨_, rfl⟩
      obtain ⟨q, hq⟩ : ∃ q, i / s.size = q := ⟨_, rfl⟩
      have hrl : r < s.size := by rw [← hr]; exact Nat.mod_lt _ h0
      have hq16 : q < 16 := by rw [← hq]; exact Nat.lt_of_le_of_lt (Nat.div_le_self _ _) (by omega)
      have er : (i : Int).tmod (s.size : Int) = (r : Int) := by rw [← hr]; rfl
      have eq_ : (i : Int).tdiv (s.size : Int) = (q : Int) := by rw [← hq]; rfl
      obtain ⟨y, hy⟩ : ∃ y, s[r]'hrl = y := ⟨_, rfl⟩
      have HV : Aside0 (fitAt s i = y + UInt8.ofNat q) := ⟨by
        unfold fitAt
        rw [if_neg (by omega), hr, hq, ← hy]
        congr 1
        rw [List.getD_eq_getElem?_getD, List.getElem?_eq_getElem (by rw [slen]; exact hrl)]
        rfl⟩
      have X := Aside0.mk (G.out.set_ i (.int .u8 (((UInt8.ofNat (17 * i)).toNat : Nat) : Int)))
      rw [bcells_set, fit_first i (by omega)] at X
      have Y := Aside0.mk (B.out.setCell (p := ⟨w.heap.size, i, none⟩) (Nat.le_refl _) (.int .u8 (17 * (i : Int))))
      have bz2 : (s.size == 0) = false := by rw [beq_eq_false_iff_ne]; omega
      have bz3 : ¬ s.size = 0 := by omega
      go_wp2_with fail
      have X' : Aside0 (Blk (wr.setCell ⟨w.heap.size, i, none⟩ (.int .u8 (17 * (i : Int)))) w.heap.size 5 (bcells ((fitTo s 8 i).set i (UInt8.ofNat (17 * i))))) := ⟨X.out⟩
      clear X G B q1 q2
      generalize wr.setCell ⟨w.heap.size, i, none⟩ (.int .u8 (17 * (i : Int))) = w2 at *
      have q1 : w2.cell? ⟨w.heap.size, i, none⟩ = some (.int .u8 (17 * (i : Int))) := by
        have h := (X'.out.cell i).trans (bcells_get _ i (by rw [List.length_set, fitTo_length]; exact hlt))
        rw [h, List.getElem_set_self, fit_first i (by omega)]
        rfl
      have q2 : w2.frozen? ⟨w.heap.size, i, none⟩ = false := X'.out.frozen i
      have hv : IntKind.u8.wrap (((y.toNat : Nat) : Int) + IntKind.u8.wrap (IntKind.i64.wrap (q : Int))) = (((fitAt s i).toNat : Nat) : Int) := by
        rw [HV.out, IntWalk.i64_in _ (by omega), IntKind.wrap_u8, IntKind.wrap_u8, UInt8.toNat_add, UInt8.toNat_ofNat']
        have := y.toNat_lt
        omega
      go_still_tail 15, (by kernel_rfl)
      change wpList _ _ _ _ _ w2.drew
      have G2 := Aside0.mk (X'.out.drew.set_ i (.int .u8 (((fitAt s i).toNat : Nat) : Int)))
      rw [bcells_set, List.set_set, fitTo_set s 8 i hlt _ rfl] at G2
      have B2 := Aside0.mk (Y.out.drew.setCell (p := ⟨w.heap.size, i, none⟩) (Nat.le_refl _) (.int .u8 (((fitAt s i).toNat : Nat) : Int)))
      clear hv X' Y er eq_ hr hq hy bz bz2 bz3 hrl hq16
      generalize (((fitAt s i).toNat : Nat) : Int) = V at *
      go_wp2
      exact ⟨⟨i + 1, by omega, by go_num, G2, B2⟩, by simp [intOf]; omega⟩
    · obtain rfl : i = 8 := by omega
      have hcv := bcells_string (c := 8) G.out (by rw [fitTo_length]; decide)
      rw [fitTo_length] at hcv
      rw [show lst (fitTo s 8 8) = fitS s 8 from rfl] at hcv
      go_wp2_with fail
      go_ret
      exact ⟨rfl, B.out⟩
set_option maxHeartbeats 2000000 in
set_option maxRecDepth 100000 in
theorem fitted_none16 (s : ByteArray) (h0 : s.size = 0) (w : World) :
    Calls Tryz.prog 15 #[.string s, .int .i64 16] w fun e w' => e = .returned (.string (fitS s 16)) ∧ Below w.heap.size w w' := by
  have hmk : ∀ w : World, (Instr.makeSlice 68 (.int .i64 16) (.int .i64 16)).run Tryz.prog w = .ok (.slice (some ⟨w.heap.size, 0, none⟩) 16 16) (w.alloc (.cells (bcells (fitTo s 16 0)) 5)) := fun w => by
    rw [show bcells (fitTo s 16 0) = #[.int .u8 0, .int .u8 0, .int .u8 0, .int .u8 0, .int .u8 0, .int .u8 0, .int .u8 0, .int .u8 0, .int .u8 0, .int .u8 0, .int .u8 0, .int .u8 0, .int .u8 0, .int .u8 0, .int .u8 0, .int .u8 0] from rfl]
    kernel_rfl
  have H0 := Aside0.mk h0
  have b0 : (0 < s.size) = False := by rw [h0]; simp
  have G : Aside0 (Blk (w.alloc (.cells (bcells (fitTo s 16 0)) 5)) w.heap.size 5 (bcells (fitTo s 16 0))) := ⟨Blk.new w 5 _⟩
  have B : Aside0 (Below w.heap.size w (w.alloc (.cells (bcells (fitTo s 16 0)) 5))) := ⟨below_alloc (Below.refl _ _) _⟩
  clear h0
  go_enter Tryz.func15, Tryz.ntmps15
  go_wp2_with fail
  generalize w.alloc (.cells (bcells (fitTo s 16 0)) 5) = w1 at *
  clear hmk
  go_loopw [6] (fun v6 wr => ∃ i : Nat, i ≤ 16 ∧ v6 = .int .i64 (i : Int) ∧ Aside0 (Blk wr w.heap.size 5 (bcells (fitTo s 16 i))) ∧ Aside0 (Below w.heap.size w wr)) (fun v6 _ => 16 - (intOf v6).toNat)
  case atStart => exact ⟨0, by omega, rfl, G, B⟩
  case round =>
    clear G B
    obtain ⟨i, hi, rfl, G, B⟩ := hrel
    by_cases hlt : i < 16
    · have q1 : wr.cell? ⟨w.heap.size, i, none⟩ = some (.int .u8 (((fitTo s 16 i)[i]'(by rw [fitTo_length]; exact hlt)).toNat : Nat)) := (G.out.cell i).trans (bcells_get _ i (by rw [fitTo_length]; exact hlt))
      have q2 : wr.frozen? ⟨w.heap.size, i, none⟩ = false := G.out.frozen i
      have G' : Aside0 (Blk (wr.setCell ⟨w.heap.size, i, none⟩ (.int .u8 (17 * (i : Int)))) w.heap.size 5 (bcells (fitTo s 16 (i + 1)))) := ⟨by
        have h := G.out.set_ i (.int .u8 (((UInt8.ofNat (17 * i)).toNat : Nat) : Int))
        rw [bcells_set, fitTo_set s 16 i hlt _ (by unfold fitAt; rw [if_pos H0.out]), fit_first i (by omega)] at h
        exact h⟩
      have B' : Aside0 (Below w.heap.size w (wr.setCell ⟨w.heap.size, i, none⟩ (.int .u8 (17 * (i : Int))))) := ⟨B.out.setCell (Nat.le_refl _) _⟩
      go_wp2_with fail
      exact ⟨⟨i + 1, by omega, by go_num, G', B'⟩, by simp [intOf]; omega⟩
    · obtain rfl : i = 16 := by omega
      have hcv := bcells_string (c := 16) G.out (by rw [fitTo_length]; decide)
      rw [fitTo_length] at hcv
      rw [show lst (fitTo s 16 16) = fitS s 16 from rfl] at hcv
      go_wp2_with fail
      go_ret
      exact ⟨rfl, B.out⟩
set_option maxHeartbeats 2000000 in
set_option maxRecDepth 100000 in
theorem fitted_some16 (s : ByteArray) (h0 : 0 < s.size) (hm : s.size ≤ 140737488355000) (w : World) :
    Calls Tryz.prog 15 #[.string s, .int .i64 16] w fun e w' => e = .returned (.string (fitS s 16)) ∧ Below w.heap.size w w' := by
  have hmk : ∀ w : World, (Instr.makeSlice 68 (.int .i64 16) (.int .i64 16)).run Tryz.prog w = .ok (.slice (some ⟨w.heap.size, 0, none⟩) 16 16) (w.alloc (.cells (bcells (fitTo s 16 0)) 5)) := fun w => by
    rw [show bcells (fitTo s 16 0) = #[.int .u8 0, .int .u8 0, .int .u8 0, .int .u8 0, .int .u8 0, .int .u8 0, .int .u8 0, .int .u8 0, .int .u8 0, .int .u8 0, .int .u8 0, .int .u8 0, .int .u8 0, .int .u8 0, .int .u8 0, .int .u8 0] from rfl]
    kernel_rfl
  have G : Aside0 (Blk (w.alloc (.cells (bcells (fitTo s 16 0)) 5)) w.heap.size 5 (bcells (fitTo s 16 0))) := ⟨Blk.new w 5 _⟩
  have B : Aside0 (Below w.heap.size w (w.alloc (.cells (bcells (fitTo s 16 0)) 5))) := ⟨below_alloc (Below.refl _ _) _⟩
  go_enter Tryz.func15, Tryz.ntmps15
  go_wp2_with fail
  generalize w.alloc (.cells (bcells (fitTo s 16 0)) 5) = w1 at *
  clear hmk
  go_loopw [6] (fun v6 wr => ∃ i : Nat, i ≤ 16 ∧ v6 = .int .i64 (i : Int) ∧ Aside0 (Blk wr w.heap.size 5 (bcells (fitTo s 16 i))) ∧ Aside0 (Below w.heap.size w wr)) (fun v6 _ => 16 - (intOf v6).toNat)
  case atStart => exact ⟨0, by omega, rfl, G, B⟩
  case round =>
    clear G B
    obtain ⟨i, hi, rfl, G, B⟩ := hrel
    by_cases hlt : i < 16
    · have q1 : wr.cell? ⟨w.heap.size, i, none⟩ = some (.int .u8 (((fitTo s 16 i)[i]'(by rw [fitTo_length]; exact hlt)).toNat : Nat)) := (G.out.cell i).trans (bcells_get _ i (by rw [fitTo_length]; exact hlt))
      have q2 : wr.frozen? ⟨w.heap.size, i, none⟩ = false := G.out.frozen i
      have bz : ((s.size : Int) == 0) = false := by rw [beq_eq_false_iff_ne]; omega
      obtain ⟨r, hr⟩ : ∃ r, i % s.size = r := ⟨_, rfl⟩
      obtain ⟨q, hq⟩ : ∃ q, i / s.size = q := ⟨_, rfl⟩
      have hrl : r < s.size := by rw [← hr]; exact Nat.mod_lt _ h0
      have hq16 : q < 16 := by rw [← hq]; exact Nat.lt_of_le_of_lt (Nat.div_le_self _ _) (by omega)
      have er : (i : Int).tmod (s.size : Int) = (r : Int) := by rw [← hr]; rfl
      have eq_ : (i : Int).tdiv (s.size : Int) = (q : Int) := by rw [← hq]; rfl
      obtain ⟨y, hy⟩ : ∃ y, s[r]'hrl = y := ⟨_, rfl⟩
      have HV : Aside0 (fitAt s i = y + UInt8.ofNat q) := ⟨by
        unfold fitAt
        rw [if_neg (by omega), hr, hq, ← hy]
        congr 1
        rw [List.getD_eq_getElem?_getD, List.getElem?_eq_getElem (by rw [slen]; exact hrl)]
        rfl⟩
      have X := Aside0.mk (G.out.set_ i (.int .u8 (((UInt8.ofNat (17 * i)).toNat : Nat) : Int)))
      rw [bcells_set, fit_first i (by omega)] at X
      have Y := Aside0.mk (B.out.setCell (p := ⟨w.heap.size, i, none⟩) (Nat.le_refl _) (.int .u8 (17 * (i : Int))))
      have bz2 : (s.size == 0) = false := by rw [beq_eq_false_iff_ne]; omega
      have bz3 : ¬ s.size = 0 := by omega
      go_wp2_with fail
      have X' : Aside0 (Blk (wr.setCell ⟨w.heap.size, i, none⟩ (.int .u8 (17 * (i : Int)))) w.heap.size 5 (bcells ((fitTo s 16 i).set i (UInt8.ofNat (17 * i))))) := ⟨X.out⟩
      clear X G B q1 q2
      generalize wr.setCell ⟨w.heap.size, i, none⟩ (.int .u8 (17 * (i : Int))) = w2 at *
      have q1 : w2.cell? ⟨w.heap.size, i, none⟩ = some (.int .u8 (17 * (i : Int))) := by
        have h := (X'.out.cell i).trans (bcells_get _ i (by rw [List.length_set, fitTo_length]; exact hlt))
        rw [h, List.getElem_set_self, fit_first i (by omega)]
        rfl
      have q2 : w2.frozen? ⟨w.heap.size, i, none⟩ = false := X'.out.frozen i
      have hv : IntKind.u8.wrap (((y.toNat : Nat) : Int) + IntKind.u8.wrap (IntKind.i64.wrap (q : Int))) = (((fitAt s i).toNat : Nat) : Int) := by
        rw [HV.out, IntWalk.i64_in _ (by omega), IntKind.wrap_u8, IntKind.wrap_u8, UInt8.toNat_add, UInt8.toNat_ofNat']
        have := y.toNat_lt
        omega
      go_still_tail 15, (by kernel_rfl)
      change wpList _ _ _ _ _ w2.drew
      have G2 := Aside0.mk (X'.out.drew.set_ i (.int .u8 (((fitAt s i).toNat : Nat) : Int)))
      rw [bcells_set, List.set_set, fitTo_set s 16 i hlt _ rfl] at G2
      have B2 := Aside0.mk (Y.out.drew.setCell (p := ⟨w.heap.size, i, none⟩) (Nat.le_refl _) (.int .u8 (((fitAt s i).toNat : Nat) : Int)))
      clear hv X' Y er eq_ hr hq hy bz bz2 bz3 hrl hq16
      generalize (((fitAt s i).toNat : Nat) : Int) = V at *
      go_wp2
      exact ⟨⟨i + 1, by omega, by go_num, G2, B2⟩, by simp [intOf]; omega⟩
    · obtain rfl : i = 16 := by omega
      have hcv := bcells_string (c := 16) G.out (by rw [fitTo_length]; decide)
      rw [fitTo_length] at hcv
      rw [show lst (fitTo s 16 16) = fitS s 16 from rfl] at hcv
      go_wp2_with fail
      go_ret
      exact ⟨rfl, B.out⟩
theorem fitted_any (s : ByteArray) (n : Int) (hn : n = 8 ∨ n = 16) (hm : s.size ≤ 140737488355000) (w : World) :
    Calls Tryz.prog 15 #[.string s, .int .i64 n] w fun e w' => e = .returned (.string (fitS s n.toNat)) ∧ Below w.heap.size w w' := by
  rcases hn with rfl | rfl
  · rcases Nat.eq_zero_or_pos s.size with h | h
    · exact fitted_none8 s h w
    · exact fitted_some8 s h hm w
  · rcases Nat.eq_zero_or_pos s.size with h | h
    · exact fitted_none16 s h w
    · exact fitted_some16 s h hm w
end Go.Proofs.YtopobangjpehnaaGreat.Seal
