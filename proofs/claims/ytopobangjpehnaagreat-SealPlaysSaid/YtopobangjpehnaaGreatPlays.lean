/- The walk of the law SealPlays. -/
import Derived.Test.YtopobangjpehnaaGreatPlaysInv
import Derived.Handy
set_option linter.unusedVariables false
set_option linter.unusedSimpArgs false
namespace Go.Proofs.YtopobangjpehnaaGreat.Seal
open Go.RowKit Go.Proofs.YtopobangjpehnaaGreatW.PrintWords Go.Proofs.YtopobangjpehnaaGreatW.PrintLast Go.Proofs.YtopobangjpehnaaGreatW.PrintMore Pr Des Num Walk

theorem newS_r (r : Nat) (h : r < 4) (w : World) : Calls Tryz.prog 4 #[.int .i64 (1 + (r : Int))] w fun e w' => ∃ g b, e = .returned (.tuple #[.pointer (some ⟨g, 0, none⟩), .int .i64 0]) ∧ w.heap.size ≤ g ∧ w.heap.size ≤ b ∧ SlotsAt w' g b (List.replicate (1 + r) emptySlot) ∧ Below w.heap.size w w' := by
  have e : ((1 + r : Nat) : Int) = 1 + (r : Int) := by omega
  rw [← e]
  exact newS_yes (1 + r) (by omega) (by omega) w
theorem newR_r (r : Nat) (h : r < 4) (w : World) : Calls Tryz.prog 5 #[.int .i64 (1 + (r : Int))] w fun e w' => ∃ g b, e = .returned (.tuple #[.pointer (some ⟨g, 0, none⟩), .int .i64 0]) ∧ w.heap.size ≤ g ∧ w.heap.size ≤ b ∧ RefAt w' g b (List.replicate (1 + r) emptySlot) ∧ Below w.heap.size w w' := by
  have e : ((1 + r : Nat) : Int) = 1 + (r : Int) := by omega
  rw [← e]
  exact newR_yes (1 + r) (by omega) (by omega) w
theorem newS_k (n : Int) (k : Nat) (e : n = (k : Int)) (h1 : 1 ≤ k) (h2 : k ≤ 32) (w : World) : Calls Tryz.prog 4 #[.int .i64 n] w fun e w' => ∃ g, e = .returned (.tuple #[.pointer (some ⟨g, 0, none⟩), .int .i64 0]) ∧ Below w.heap.size w w' := by
  rw [e]; exact (newS_yes k h1 h2 w).mono fun e w' ⟨g, b, he, _, _, _, hb⟩ => ⟨g, he, hb⟩
theorem newR_k (n : Int) (k : Nat) (e : n = (k : Int)) (h1 : 1 ≤ k) (h2 : k ≤ 32) (w : World) : Calls Tryz.prog 5 #[.int .i64 n] w fun e w' => ∃ g, e = .returned (.tuple #[.pointer (some ⟨g, 0, none⟩), .int .i64 0]) ∧ Below w.heap.size w w' := by
  rw [e]; exact (newR_yes k h1 h2 w).mono fun e w' ⟨g, b, he, _, _, _, hb⟩ => ⟨g, he, hb⟩

/-- The cells of a step, as the walk asks for them. -/
structure OpAt (w : World) (x : Addr) (o : OpD) : Prop where
  c0 : w.cell? x = some (.int .i64 o.kind)
  c1 : w.cell? ⟨x.block, x.off + 1, none⟩ = some (.int .i64 o.on)
  c2 : w.cell? ⟨x.block, x.off + 2, none⟩ = some (.int .i64 o.slot)
  c3 : w.cell? ⟨x.block, x.off + 3, none⟩ = some (.int .i64 o.alg)
  c4 : w.cell? ⟨x.block, x.off + 4, none⟩ = some (.int .i64 o.method)
  c5 : w.cell? ⟨x.block, x.off + 5, none⟩ = some (.string o.key)
  c6 : w.cell? ⟨x.block, x.off + 6, none⟩ = some (.string o.exch)
  c7 : w.cell? ⟨x.block, x.off + 7, none⟩ = some (.string o.text)
theorem Script.op {w : World} {a : Addr} {len : Nat} {O : Nat → OpD} (h : Script w (some a) len O) (i : Nat) (hi : i < len) : OpAt w (a.add (i * 8)) (O i) := by
  obtain ⟨_, a', ha, _, hc⟩ := h i hi
  obtain rfl : a = a' := Option.some.inj ha
  have e : ∀ j, j < 8 → w.cell? ((a.add (i * 8)).add j) = (opCells (O i))[j]? := fun j hj => by rw [Ref.add_add]; exact hc j hj
  exact ⟨e 0 (by decide), e 1 (by decide), e 2 (by decide), e 3 (by decide), e 4 (by decide), e 5 (by decide), e 6 (by decide), e 7 (by decide)⟩
theorem Script.some_ {w : World} {A : Option Addr} {len : Nat} {O : Nat → OpD} (h : Script w A len O) (i : Nat) (hi : i < len) : GoodO (O i) ∧ ∃ a, A = some a := by
  obtain ⟨h1, a, ha, _⟩ := h i hi
  exact ⟨h1, a, ha⟩
/-- What the call of a step reads. -/
abbrev Reads (w : World) (pa pb k : Nat) (r : RowD) (x : Addr) (o : OpD) : Prop := w.cell? ⟨pa, k, none⟩ = some (.pointer (some ⟨r.g, 0, none⟩)) ∧ w.cell? ⟨pb, k, none⟩ = some (.pointer (some ⟨r.g', 0, none⟩)) ∧ w.cell? x = some (.int .i64 o.kind) ∧
  w.cell? ⟨x.block, x.off + 1, none⟩ = some (.int .i64 o.on) ∧ w.cell? ⟨x.block, x.off + 2, none⟩ = some (.int .i64 o.slot) ∧ w.cell? ⟨x.block, x.off + 3, none⟩ = some (.int .i64 o.alg) ∧ w.cell? ⟨x.block, x.off + 4, none⟩ = some (.int .i64 o.method) ∧
  w.cell? ⟨x.block, x.off + 5, none⟩ = some (.string o.key) ∧ w.cell? ⟨x.block, x.off + 6, none⟩ = some (.string o.exch) ∧ w.cell? ⟨x.block, x.off + 7, none⟩ = some (.string o.text)
theorem reads_of {w0 w : World} {pa pb : Nat} {ca cb : Array Value} {R R' : Nat → RowD} (I : Inv w0 w pa pb ca cb R') (k : Nat) (hk : k < 2) (e1 : (R' k).g = (R k).g) (e2 : (R' k).g' = (R k).g') {a : Addr} {len : Nat} {O : Nat → OpD} (h : Script w0 (some a) len O) (i : Nat) (hi : i < len) :
    Reads w pa pb k (R k) (a.add (i * 8)) (O i) := by
  have c := (h.step I.bel).op i hi
  exact ⟨e1 ▸ I.cellA k hk, e2 ▸ I.cellB k hk, c.c0, c.c1, c.c2, c.c3, c.c4, c.c5, c.c6, c.c7⟩
set_option maxHeartbeats 16000000 in
set_option maxRecDepth 100000 in
theorem plays_law (w : World) (one two : Int) (h1 : I64 one) (h2 : I64 two) (A : Option Addr) (len cap : Nat) (hlen : len ≤ 140737488355328) (O : Nat → OpD) (hS : Script w A len O) :
    Calls Tryz.prog 3 #[.int .i64 one, .int .i64 two, .slice A len cap] w fun e w' => e = .returned (.bool true) ∧ Below w.heap.size w w' := by
  have SC := Aside0.mk hS
  have H1 := Aside0.mk h1
  have H2 := Aside0.mk h2
  clear hS h1 h2
  go_enter Tryz.func3, Tryz.ntmps3
  go_wp2_with fail
  go_loopw [7, 8, 9] (fun v7 v8 v9 wr => ∃ (q : Nat) (R : Nat → RowD), q ≤ 2 ∧ v9 = .int .i64 (q : Int) ∧ Aside0 (Inv1 w wr q q q v7 v8 R)) (fun _ _ v9 _ => 2 - (intOf v9).toNat)
  case atStart => exact ⟨0, fun _ => ⟨0, 0, 0, 0, []⟩, by omega, rfl, ⟨Inv1.start _ _⟩⟩
  case round =>
    obtain ⟨q, R, hq, rfl, I⟩ := hrel
    have hq3 : q = 0 ∨ q = 1 ∨ q = 2 := by omega
    clear hq
    rcases hq3 with rfl | rfl | rfl
    · skip
      obtain ⟨r, hr, pr⟩ := pick4_any one 4 H1.out (by decide) (by decide)
      have P := Aside0.mk pr
      have HR : Aside0 (r < 4) := ⟨by omega⟩
      clear pr
      go_upto_region 7 with fail
      replace I := Aside0.mk (I.out.step (below_alloc (Below.refl wr.heap.size wr) (.cells #[.int .i64 one, .int .i64 two] 3)))
      generalize wr.alloc (.cells #[.int .i64 one, .int .i64 two] 3) = w1 at *
      by_cases hn : one < 1 ∨ 32 < one
      · have N1 := Aside0.mk (newS_no one hn)
        have N2 := Aside0.mk (newR_no one hn)
        clear hn
        go_wp2_with fail
        refine (N1.out _).mono ?_
        rintro e x1 ⟨rfl, hb⟩
        replace I := Aside0.mk (I.out.step hb)
        clear hb
        go_wp2_with fail
        refine (N2.out _).mono ?_
        rintro e x2 ⟨rfl, hb⟩
        replace I := Aside0.mk (I.out.step hb)
        clear hb
        go_wp2_with fail
        refine (P.out _).mono ?_
        rintro e x3 ⟨rfl, hb⟩
        replace I := Aside0.mk (I.out.step hb)
        clear hb
        go_wp2_with fail
        refine (newS_r r HR.out _).mono ?_
        rintro e x4 ⟨g, b, rfl, hge, hbe, hS, hb⟩
        have HN1 : Aside0 (∀ k, k < 0 → (R k).b < b) := ⟨fun k hk => Nat.lt_of_lt_of_le (I.out.rows k hk).s.body.lt hbe⟩
        have HB1 : Aside0 (w.heap.size ≤ b) := ⟨Nat.le_trans I.out.bel.size hbe⟩
        replace I := Aside0.mk (I.out.step hb)
        have S := Aside0.mk hS
        clear hge hbe hS hb
        go_wp2_with fail
        refine (newR_r r HR.out _).mono ?_
        rintro e x5 ⟨g', b', rfl, hge, hbe, hS, hb⟩
        have HN2 : Aside0 (∀ k, k < 0 → (R k).b' < b') := ⟨fun k hk => Nat.lt_of_lt_of_le (I.out.rows k hk).r.body.lt hbe⟩
        have HB2 : Aside0 (w.heap.size ≤ b') := ⟨Nat.le_trans I.out.bel.size hbe⟩
        have T : Aside0 (RowD.At ⟨g, b, g', b', List.replicate (1 + r) emptySlot⟩ x5) := ⟨⟨S.out.step hb, hS⟩⟩
        replace I := Aside0.mk ((I.out.step hb).add (Nat.le_refl _) (Nat.le_refl _) _ T.out ⟨GoodL.replicate _, by show 1 ≤ (List.replicate (1 + r) emptySlot).length; rw [List.length_replicate]; omega, by show (List.replicate (1 + r) emptySlot).length ≤ 32; have := HR.out; rw [List.length_replicate]; omega⟩ ⟨HB1.out, HB2.out⟩ (fun k hk => ⟨HN1.out k hk, HN2.out k hk⟩))
        have E1 : Aside0 (ptrS (more1 R 0 ⟨g, b, g', b', List.replicate (1 + r) emptySlot⟩ 0) = .pointer (some ⟨g, 0, none⟩)) := ⟨by unfold ptrS; rw [more1_same]⟩
        have E2 : Aside0 (ptrR (more1 R 0 ⟨g, b, g', b', List.replicate (1 + r) emptySlot⟩ 0) = .pointer (some ⟨g', 0, none⟩)) := ⟨by unfold ptrR; rw [more1_same]⟩
        clear hge hbe hS hb S T HN1 HN2 HB1 HB2
        generalize more1 R 0 ⟨g, b, g', b', List.replicate (1 + r) emptySlot⟩ = R' at *
        go_wp2_with (first
          | ((with_reducible refine gate_builtin (b := .append) (xs := #[.tmp 78, .tmp 80]) rfl ?_)
             at_builtin
             refine print_append (w0 := w) (W := x5) w.heap.size rfl (.tmp 78) (.tmp 80) 23 26 (.pointer none) 8 rfl Tryz.underlying23 infoA rfl (by decide) u7 ((List.range 0).map fun k => ptrS (R' k)) (.pointer (some ⟨g, 0, none⟩)) rfl rfl rfl (by rw [List.length_map, List.length_range]; exact I.out.own) I.out.bel I.out.bel.size (by rw [List.length_map, List.length_range]; decide) ?_
             intro y7 x6 ho hb hg hat
             replace I := Aside0.mk (I.out.fst (by rw [E1.out]; rw [List.length_append, List.length_map, List.length_range] at ho; exact ho) hb hg)
             clear ho hb hg hat)
          | ((with_reducible refine gate_builtin (b := .append) (xs := #[.tmp 82, .tmp 84]) rfl ?_)
             at_builtin
             refine print_append (w0 := w) (W := x6) w.heap.size rfl (.tmp 82) (.tmp 84) 24 30 (.pointer none) 8 rfl Tryz.underlying24 infoB rfl (by decide) u8 ((List.range 0).map fun k => ptrR (R' k)) (.pointer (some ⟨g', 0, none⟩)) rfl rfl rfl (by rw [List.length_map, List.length_range]; exact I.out.own') I.out.bel I.out.bel.size (by rw [List.length_map, List.length_range]; decide) ?_
             intro y8 x7 ho hb hg hat
             replace I := Aside0.mk (I.out.snd (by rw [E2.out]; rw [List.length_append, List.length_map, List.length_range] at ho; exact ho) hb hg)
             clear ho hb hg hat))
        go_roundw
        case rel => exact ⟨0 + 1, R', by omega, by go_num, I⟩
        case measure => simp [intOf]
      · have N1 := Aside0.mk (newS_k one one.toNat (by omega) (by omega) (by omega))
        have N2 := Aside0.mk (newR_k one one.toNat (by omega) (by omega) (by omega))
        clear hn
        go_wp2_with fail
        refine (N1.out _).mono ?_
        rintro e x1 ⟨ga, rfl, hb⟩
        replace I := Aside0.mk (I.out.step hb)
        clear hb
        go_wp2_with fail
        refine (N2.out _).mono ?_
        rintro e x2 ⟨gb, rfl, hb⟩
        replace I := Aside0.mk (I.out.step hb)
        clear hb
        go_wp2_with fail
        refine (P.out _).mono ?_
        rintro e x3 ⟨rfl, hb⟩
        replace I := Aside0.mk (I.out.step hb)
        clear hb
        go_wp2_with fail
        refine (newS_r r HR.out _).mono ?_
        rintro e x4 ⟨g, b, rfl, hge, hbe, hS, hb⟩
        have HN1 : Aside0 (∀ k, k < 0 → (R k).b < b) := ⟨fun k hk => Nat.lt_of_lt_of_le (I.out.rows k hk).s.body.lt hbe⟩
        have HB1 : Aside0 (w.heap.size ≤ b) := ⟨Nat.le_trans I.out.bel.size hbe⟩
        replace I := Aside0.mk (I.out.step hb)
        have S := Aside0.mk hS
        clear hge hbe hS hb
        go_wp2_with fail
        refine (newR_r r HR.out _).mono ?_
        rintro e x5 ⟨g', b', rfl, hge, hbe, hS, hb⟩
        have HN2 : Aside0 (∀ k, k < 0 → (R k).b' < b') := ⟨fun k hk => Nat.lt_of_lt_of_le (I.out.rows k hk).r.body.lt hbe⟩
        have HB2 : Aside0 (w.heap.size ≤ b') := ⟨Nat.le_trans I.out.bel.size hbe⟩
        have T : Aside0 (RowD.At ⟨g, b, g', b', List.replicate (1 + r) emptySlot⟩ x5) := ⟨⟨S.out.step hb, hS⟩⟩
        replace I := Aside0.mk ((I.out.step hb).add (Nat.le_refl _) (Nat.le_refl _) _ T.out ⟨GoodL.replicate _, by show 1 ≤ (List.replicate (1 + r) emptySlot).length; rw [List.length_replicate]; omega, by show (List.replicate (1 + r) emptySlot).length ≤ 32; have := HR.out; rw [List.length_replicate]; omega⟩ ⟨HB1.out, HB2.out⟩ (fun k hk => ⟨HN1.out k hk, HN2.out k hk⟩))
        have E1 : Aside0 (ptrS (more1 R 0 ⟨g, b, g', b', List.replicate (1 + r) emptySlot⟩ 0) = .pointer (some ⟨g, 0, none⟩)) := ⟨by unfold ptrS; rw [more1_same]⟩
        have E2 : Aside0 (ptrR (more1 R 0 ⟨g, b, g', b', List.replicate (1 + r) emptySlot⟩ 0) = .pointer (some ⟨g', 0, none⟩)) := ⟨by unfold ptrR; rw [more1_same]⟩
        clear hge hbe hS hb S T HN1 HN2 HB1 HB2
        generalize more1 R 0 ⟨g, b, g', b', List.replicate (1 + r) emptySlot⟩ = R' at *
        go_wp2_with (first
          | ((with_reducible refine gate_builtin (b := .append) (xs := #[.tmp 78, .tmp 80]) rfl ?_)
             at_builtin
             refine print_append (w0 := w) (W := x5) w.heap.size rfl (.tmp 78) (.tmp 80) 23 26 (.pointer none) 8 rfl Tryz.underlying23 infoA rfl (by decide) u7 ((List.range 0).map fun k => ptrS (R' k)) (.pointer (some ⟨g, 0, none⟩)) rfl rfl rfl (by rw [List.length_map, List.length_range]; exact I.out.own) I.out.bel I.out.bel.size (by rw [List.length_map, List.length_range]; decide) ?_
             intro y7 x6 ho hb hg hat
             replace I := Aside0.mk (I.out.fst (by rw [E1.out]; rw [List.length_append, List.length_map, List.length_range] at ho; exact ho) hb hg)
             clear ho hb hg hat)
          | ((with_reducible refine gate_builtin (b := .append) (xs := #[.tmp 82, .tmp 84]) rfl ?_)
             at_builtin
             refine print_append (w0 := w) (W := x6) w.heap.size rfl (.tmp 82) (.tmp 84) 24 30 (.pointer none) 8 rfl Tryz.underlying24 infoB rfl (by decide) u8 ((List.range 0).map fun k => ptrR (R' k)) (.pointer (some ⟨g', 0, none⟩)) rfl rfl rfl (by rw [List.length_map, List.length_range]; exact I.out.own') I.out.bel I.out.bel.size (by rw [List.length_map, List.length_range]; decide) ?_
             intro y8 x7 ho hb hg hat
             replace I := Aside0.mk (I.out.snd (by rw [E2.out]; rw [List.length_append, List.length_map, List.length_range] at ho; exact ho) hb hg)
             clear ho hb hg hat))
        go_roundw
        case rel => exact ⟨0 + 1, R', by omega, by go_num, I⟩
        case measure => simp [intOf]
    · skip
      obtain ⟨r, hr, pr⟩ := pick4_any two 4 H2.out (by decide) (by decide)
      have P := Aside0.mk pr
      have HR : Aside0 (r < 4) := ⟨by omega⟩
      clear pr
      go_upto_region 7 with fail
      replace I := Aside0.mk (I.out.step (below_alloc (Below.refl wr.heap.size wr) (.cells #[.int .i64 one, .int .i64 two] 3)))
      generalize wr.alloc (.cells #[.int .i64 one, .int .i64 two] 3) = w1 at *
      by_cases hn : two < 1 ∨ 32 < two
      · have N1 := Aside0.mk (newS_no two hn)
        have N2 := Aside0.mk (newR_no two hn)
        clear hn
        go_wp2_with fail
        refine (N1.out _).mono ?_
        rintro e x1 ⟨rfl, hb⟩
        replace I := Aside0.mk (I.out.step hb)
        clear hb
        go_wp2_with fail
        refine (N2.out _).mono ?_
        rintro e x2 ⟨rfl, hb⟩
        replace I := Aside0.mk (I.out.step hb)
        clear hb
        go_wp2_with fail
        refine (P.out _).mono ?_
        rintro e x3 ⟨rfl, hb⟩
        replace I := Aside0.mk (I.out.step hb)
        clear hb
        go_wp2_with fail
        refine (newS_r r HR.out _).mono ?_
        rintro e x4 ⟨g, b, rfl, hge, hbe, hS, hb⟩
        have HN1 : Aside0 (∀ k, k < 1 → (R k).b < b) := ⟨fun k hk => Nat.lt_of_lt_of_le (I.out.rows k hk).s.body.lt hbe⟩
        have HB1 : Aside0 (w.heap.size ≤ b) := ⟨Nat.le_trans I.out.bel.size hbe⟩
        replace I := Aside0.mk (I.out.step hb)
        have S := Aside0.mk hS
        clear hge hbe hS hb
        go_wp2_with fail
        refine (newR_r r HR.out _).mono ?_
        rintro e x5 ⟨g', b', rfl, hge, hbe, hS, hb⟩
        have HN2 : Aside0 (∀ k, k < 1 → (R k).b' < b') := ⟨fun k hk => Nat.lt_of_lt_of_le (I.out.rows k hk).r.body.lt hbe⟩
        have HB2 : Aside0 (w.heap.size ≤ b') := ⟨Nat.le_trans I.out.bel.size hbe⟩
        have T : Aside0 (RowD.At ⟨g, b, g', b', List.replicate (1 + r) emptySlot⟩ x5) := ⟨⟨S.out.step hb, hS⟩⟩
        replace I := Aside0.mk ((I.out.step hb).add (Nat.le_refl _) (Nat.le_refl _) _ T.out ⟨GoodL.replicate _, by show 1 ≤ (List.replicate (1 + r) emptySlot).length; rw [List.length_replicate]; omega, by show (List.replicate (1 + r) emptySlot).length ≤ 32; have := HR.out; rw [List.length_replicate]; omega⟩ ⟨HB1.out, HB2.out⟩ (fun k hk => ⟨HN1.out k hk, HN2.out k hk⟩))
        have E1 : Aside0 (ptrS (more1 R 1 ⟨g, b, g', b', List.replicate (1 + r) emptySlot⟩ 1) = .pointer (some ⟨g, 0, none⟩)) := ⟨by unfold ptrS; rw [more1_same]⟩
        have E2 : Aside0 (ptrR (more1 R 1 ⟨g, b, g', b', List.replicate (1 + r) emptySlot⟩ 1) = .pointer (some ⟨g', 0, none⟩)) := ⟨by unfold ptrR; rw [more1_same]⟩
        clear hge hbe hS hb S T HN1 HN2 HB1 HB2
        generalize more1 R 1 ⟨g, b, g', b', List.replicate (1 + r) emptySlot⟩ = R' at *
        go_wp2_with (first
          | ((with_reducible refine gate_builtin (b := .append) (xs := #[.tmp 78, .tmp 80]) rfl ?_)
             at_builtin
             refine print_append (w0 := w) (W := x5) w.heap.size rfl (.tmp 78) (.tmp 80) 23 26 (.pointer none) 8 rfl Tryz.underlying23 infoA rfl (by decide) u7 ((List.range 1).map fun k => ptrS (R' k)) (.pointer (some ⟨g, 0, none⟩)) rfl rfl rfl (by rw [List.length_map, List.length_range]; exact I.out.own) I.out.bel I.out.bel.size (by rw [List.length_map, List.length_range]; decide) ?_
             intro y7 x6 ho hb hg hat
             replace I := Aside0.mk (I.out.fst (by rw [E1.out]; rw [List.length_append, List.length_map, List.length_range] at ho; exact ho) hb hg)
             clear ho hb hg hat)
          | ((with_reducible refine gate_builtin (b := .append) (xs := #[.tmp 82, .tmp 84]) rfl ?_)
             at_builtin
             refine print_append (w0 := w) (W := x6) w.heap.size rfl (.tmp 82) (.tmp 84) 24 30 (.pointer none) 8 rfl Tryz.underlying24 infoB rfl (by decide) u8 ((List.range 1).map fun k => ptrR (R' k)) (.pointer (some ⟨g', 0, none⟩)) rfl rfl rfl (by rw [List.length_map, List.length_range]; exact I.out.own') I.out.bel I.out.bel.size (by rw [List.length_map, List.length_range]; decide) ?_
             intro y8 x7 ho hb hg hat
             replace I := Aside0.mk (I.out.snd (by rw [E2.out]; rw [List.length_append, List.length_map, List.length_range] at ho; exact ho) hb hg)
             clear ho hb hg hat))
        go_roundw
        case rel => exact ⟨1 + 1, R', by omega, by go_num, I⟩
        case measure => simp [intOf]
      · have N1 := Aside0.mk (newS_k two two.toNat (by omega) (by omega) (by omega))
        have N2 := Aside0.mk (newR_k two two.toNat (by omega) (by omega) (by omega))
        clear hn
        go_wp2_with fail
        refine (N1.out _).mono ?_
        rintro e x1 ⟨ga, rfl, hb⟩
        replace I := Aside0.mk (I.out.step hb)
        clear hb
        go_wp2_with fail
        refine (N2.out _).mono ?_
        rintro e x2 ⟨gb, rfl, hb⟩
        replace I := Aside0.mk (I.out.step hb)
        clear hb
        go_wp2_with fail
        refine (P.out _).mono ?_
        rintro e x3 ⟨rfl, hb⟩
        replace I := Aside0.mk (I.out.step hb)
        clear hb
        go_wp2_with fail
        refine (newS_r r HR.out _).mono ?_
        rintro e x4 ⟨g, b, rfl, hge, hbe, hS, hb⟩
        have HN1 : Aside0 (∀ k, k < 1 → (R k).b < b) := ⟨fun k hk => Nat.lt_of_lt_of_le (I.out.rows k hk).s.body.lt hbe⟩
        have HB1 : Aside0 (w.heap.size ≤ b) := ⟨Nat.le_trans I.out.bel.size hbe⟩
        replace I := Aside0.mk (I.out.step hb)
        have S := Aside0.mk hS
        clear hge hbe hS hb
        go_wp2_with fail
        refine (newR_r r HR.out _).mono ?_
        rintro e x5 ⟨g', b', rfl, hge, hbe, hS, hb⟩
        have HN2 : Aside0 (∀ k, k < 1 → (R k).b' < b') := ⟨fun k hk => Nat.lt_of_lt_of_le (I.out.rows k hk).r.body.lt hbe⟩
        have HB2 : Aside0 (w.heap.size ≤ b') := ⟨Nat.le_trans I.out.bel.size hbe⟩
        have T : Aside0 (RowD.At ⟨g, b, g', b', List.replicate (1 + r) emptySlot⟩ x5) := ⟨⟨S.out.step hb, hS⟩⟩
        replace I := Aside0.mk ((I.out.step hb).add (Nat.le_refl _) (Nat.le_refl _) _ T.out ⟨GoodL.replicate _, by show 1 ≤ (List.replicate (1 + r) emptySlot).length; rw [List.length_replicate]; omega, by show (List.replicate (1 + r) emptySlot).length ≤ 32; have := HR.out; rw [List.length_replicate]; omega⟩ ⟨HB1.out, HB2.out⟩ (fun k hk => ⟨HN1.out k hk, HN2.out k hk⟩))
        have E1 : Aside0 (ptrS (more1 R 1 ⟨g, b, g', b', List.replicate (1 + r) emptySlot⟩ 1) = .pointer (some ⟨g, 0, none⟩)) := ⟨by unfold ptrS; rw [more1_same]⟩
        have E2 : Aside0 (ptrR (more1 R 1 ⟨g, b, g', b', List.replicate (1 + r) emptySlot⟩ 1) = .pointer (some ⟨g', 0, none⟩)) := ⟨by unfold ptrR; rw [more1_same]⟩
        clear hge hbe hS hb S T HN1 HN2 HB1 HB2
        generalize more1 R 1 ⟨g, b, g', b', List.replicate (1 + r) emptySlot⟩ = R' at *
        go_wp2_with (first
          | ((with_reducible refine gate_builtin (b := .append) (xs := #[.tmp 78, .tmp 80]) rfl ?_)
             at_builtin
             refine print_append (w0 := w) (W := x5) w.heap.size rfl (.tmp 78) (.tmp 80) 23 26 (.pointer none) 8 rfl Tryz.underlying23 infoA rfl (by decide) u7 ((List.range 1).map fun k => ptrS (R' k)) (.pointer (some ⟨g, 0, none⟩)) rfl rfl rfl (by rw [List.length_map, List.length_range]; exact I.out.own) I.out.bel I.out.bel.size (by rw [List.length_map, List.length_range]; decide) ?_
             intro y7 x6 ho hb hg hat
             replace I := Aside0.mk (I.out.fst (by rw [E1.out]; rw [List.length_append, List.length_map, List.length_range] at ho; exact ho) hb hg)
             clear ho hb hg hat)
          | ((with_reducible refine gate_builtin (b := .append) (xs := #[.tmp 82, .tmp 84]) rfl ?_)
             at_builtin
             refine print_append (w0 := w) (W := x6) w.heap.size rfl (.tmp 82) (.tmp 84) 24 30 (.pointer none) 8 rfl Tryz.underlying24 infoB rfl (by decide) u8 ((List.range 1).map fun k => ptrR (R' k)) (.pointer (some ⟨g', 0, none⟩)) rfl rfl rfl (by rw [List.length_map, List.length_range]; exact I.out.own') I.out.bel I.out.bel.size (by rw [List.length_map, List.length_range]; decide) ?_
             intro y8 x7 ho hb hg hat
             replace I := Aside0.mk (I.out.snd (by rw [E2.out]; rw [List.length_append, List.length_map, List.length_range] at ho; exact ho) hb hg)
             clear ho hb hg hat))
        go_roundw
        case rel => exact ⟨1 + 1, R', by omega, by go_num, I⟩
        case measure => simp [intOf]
    · obtain ⟨pa, c1, ca, pb, c2, cb, rfl, rfl, hI⟩ := I.out.done
      replace I := Aside0.mk hI
      clear hI
      rw [show ((2 : Nat) : Int) = (2 : Int) from rfl]
      go_wp2_with fail
      go_loopw [15] (fun v15 wx => ∃ (i : Nat) (R : Nat → RowD), i ≤ len ∧ v15 = .int .i64 (i : Int) ∧ Aside0 (Inv w wx pa pb ca cb R)) (fun v15 _ => len - (intOf v15).toNat)
      case atStart => exact ⟨0, R, by omega, rfl, I⟩
      case round =>
        clear I
        obtain ⟨i, R, hi, rfl, I⟩ := hrel
        by_cases hlt : i < len
        · obtain ⟨hO, a, hA⟩ := SC.out.some_ i hlt
          subst hA
          obtain ⟨k, hk, pk⟩ := pick4_any (O i).on 2 hO.on (by decide) (by decide)
          have P := Aside0.mk pk
          have hk2 : k < 2 := by omega
          have HK := Aside0.mk hk2
          have PL : Aside0 (∀ (L : List SlotD) (h1 : GoodL L) (h2 : L.length ≤ 32) (W : World), Two W (R k).g (R k).b (R k).g' (R k).b' L L → Calls Tryz.prog 7 #[.pointer (some ⟨(R k).g, 0, none⟩), .pointer (some ⟨(R k).g', 0, none⟩), .agg (opCells (O i))] W (StepTo L (R k).g (R k).b (R k).g' (R k).b' W)) :=
            ⟨fun L h1 h2 W h => play_any L h1 h2 (O i) hO _ _ _ _ W h⟩
          have q1 := ((SC.out.step I.out.bel).op i hlt).c1
          have HRD : Aside0 (∀ (W : World) (R' : Nat → RowD), Inv w W pa pb ca cb R' → (R' k).g = (R k).g → (R' k).g' = (R k).g' → Reads W pa pb k (R k) (a.add (i * 8)) (O i)) := ⟨fun W R' I' e1 e2 => reads_of I' k hk2 e1 e2 SC.out i hlt⟩
          rw [show opCells (O i) = #[.int .i64 (O i).kind, .int .i64 (O i).on, .int .i64 (O i).slot, .int .i64 (O i).alg, .int .i64 (O i).method, .string (O i).key, .string (O i).exch, .string (O i).text] from rfl] at PL
          have HR : Aside0 (∀ W, Inv w W pa pb ca cb R → (R k).At W ∧ GoodL (R k).L ∧ (R k).L.length ≤ 32) := ⟨fun W h => ⟨h.rows k hk2, (h.good k hk2).1, (h.good k hk2).2.2⟩⟩
          clear hO pk
          generalize O i = o at *
          generalize hr : R k = r at *
          have HRE := Aside0.mk hr
          clear hr
          go_wp2_with fail
          clear q1
          refine (P.out _).mono ?_
          rintro e x1 ⟨rfl, hb⟩
          replace I := Aside0.mk (I.out.step hb)
          clear hb
          go_wp2_with fail
          replace I := Aside0.mk I.out.drew
          have RD := Aside0.mk (HRD.out _ R I.out (by rw [HRE.out]) (by rw [HRE.out]))
          go_region_held (fun w' => w'.cell? ⟨pa, k, none⟩ = some (.pointer (some ⟨r.g, 0, none⟩)) ∧ w'.cell? ⟨pb, k, none⟩ = some (.pointer (some ⟨r.g', 0, none⟩)) ∧ w'.cell? (a.add (i * 8)) = some (.int .i64 o.kind) ∧
              w'.cell? ⟨(a.add (i * 8)).block, (a.add (i * 8)).off + 1, none⟩ = some (.int .i64 o.on) ∧ w'.cell? ⟨(a.add (i * 8)).block, (a.add (i * 8)).off + 2, none⟩ = some (.int .i64 o.slot) ∧ w'.cell? ⟨(a.add (i * 8)).block, (a.add (i * 8)).off + 3, none⟩ = some (.int .i64 o.alg) ∧ w'.cell? ⟨(a.add (i * 8)).block, (a.add (i * 8)).off + 4, none⟩ = some (.int .i64 o.method) ∧
              w'.cell? ⟨(a.add (i * 8)).block, (a.add (i * 8)).off + 5, none⟩ = some (.string o.key) ∧ w'.cell? ⟨(a.add (i * 8)).block, (a.add (i * 8)).off + 6, none⟩ = some (.string o.exch) ∧ w'.cell? ⟨(a.add (i * 8)).block, (a.add (i * 8)).off + 7, none⟩ = some (.string o.text))
            (exact RD.out)
            (first | (go_at_call 7
                      refine (PL.out r.L (HR.out _ I.out).2.1 (HR.out _ I.out).2.2 _ (HR.out _ I.out).1).mono ?_
                      rintro e x2 ⟨rfl, L', hG, hl, hS, hb⟩
                      have hI := I.out.play k HK.out (L := L') hG (by rw [HRE.out]; exact hl) (by rw [HRE.out]; exact hS) (by rw [HRE.out]; exact hb)
                      replace I := Aside0.mk hI
                      replace RD := Aside0.mk (HRD.out _ _ I.out (by unfold turnR; rw [if_pos rfl, HRE.out]) (by unfold turnR; rw [if_pos rfl, HRE.out]))
                      clear hG hl hS hb hI))
          go_wp2_with fail
          go_roundw
          case rel => exact ⟨i + 1, _, by omega, by go_num, I⟩
          case measure => simp [intOf]; omega
        · go_wp2_with fail
          go_loopw [18] (fun v18 wy => ∃ k : Nat, k ≤ 2 ∧ v18 = .int .i64 (k : Int) ∧ Aside0 (Inv w wy pa pb ca cb R)) (fun v18 _ => 2 - (intOf v18).toNat)
          case atStart => exact ⟨0, by omega, rfl, I⟩
          case round =>
            clear I
            obtain ⟨k, hk, rfl, I⟩ := hrel
            by_cases hk2 : k < 2
            · have HK := Aside0.mk hk2
              have HLL := Aside0.mk (I.out.good k hk2)
              obtain ⟨r, hr⟩ : ∃ r, R k = r := ⟨_, rfl⟩
              have HRE := Aside0.mk hr
              have HR : Aside0 (∀ W, Inv w W pa pb ca cb R → r.At W) := ⟨fun W h => hr ▸ h.rows k hk2⟩
              have HC : Aside0 (∀ W, Inv w W pa pb ca cb R → W.cell? ⟨pa, k, none⟩ = some (.pointer (some ⟨r.g, 0, none⟩)) ∧ W.cell? ⟨pb, k, none⟩ = some (.pointer (some ⟨r.g', 0, none⟩)) ∧ W.cell? ⟨r.g', 0, none⟩ = some (.slice (some ⟨r.b', 0, none⟩) r.L.length r.L.length)) :=
                ⟨fun W h => ⟨hr ▸ h.cellA k hk2, hr ▸ h.cellB k hk2, hr ▸ (h.rows k hk2).r.cell0⟩⟩
              have hlr : r.L.length ≤ 32 := by have := HLL.out.2.2; rw [hr] at this; exact this
              clear hr
              have hkd : decide ((k : Int) < 2) = true := decide_eq_true (by omega)
              go_wp2_with fail
              go_loopw [19] (fun v19 wz => ∃ i : Nat, i ≤ r.L.length ∧ v19 = .int .i64 (i : Int) ∧ Aside0 (Inv w wz pa pb ca cb R)) (fun v19 _ => r.L.length - (intOf v19).toNat)
              case atStart => exact ⟨0, by omega, rfl, I⟩
              case round =>
                clear I
                obtain ⟨j, hj, rfl, I⟩ := hrel
                obtain ⟨q1, q2, q3⟩ := HC.out _ I.out
                by_cases hjl : j < r.L.length
                · obtain ⟨T, E, hT, t1, t2⟩ := tag_two r.L (j : Int) ⟨#[101, 110, 100]⟩ (by decide) r.g r.b r.g' r.b'
                  obtain ⟨n, u1, u2⟩ := round_two r.L (j : Int) r.g r.b r.g' r.b'
                  have T1 := Aside0.mk t1
                  have T2 := Aside0.mk t2
                  have U1 := Aside0.mk u1
                  have U2 := Aside0.mk u2
                  clear t1 t2 u1 u2 hT
                  go_wp2_with fail
                  clear q1 q2 q3
                  refine (T1.out _ (HR.out _ I.out)).mono ?_
                  rintro e x1 ⟨rfl, hb⟩
                  replace I := Aside0.mk (I.out.step hb)
                  clear hb
                  obtain ⟨q1, q2, q3⟩ := HC.out _ I.out
                  go_wp2_with fail
                  clear q1 q2 q3
                  refine (T2.out _ (HR.out _ I.out)).mono ?_
                  rintro e x2 ⟨rfl, hb⟩
                  replace I := Aside0.mk (I.out.step hb)
                  clear hb
                  go_upto_region 33 with fail
                  replace I := Aside0.mk I.out.drew
                  go_region_held (fun w' => w'.cell? ⟨pa, k, none⟩ = some (.pointer (some ⟨r.g, 0, none⟩)) ∧ w'.cell? ⟨pb, k, none⟩ = some (.pointer (some ⟨r.g', 0, none⟩)))
                    (exact ⟨(HC.out _ I.out).1, (HC.out _ I.out).2.1⟩)
                    (first
                      | (go_at_call 10; refine (U1.out _ (HR.out _ I.out)).mono ?_; rintro e x3 ⟨rfl, hb⟩; replace I := Aside0.mk (I.out.step hb); clear hb)
                      | (go_at_call 11; refine (U2.out _ (HR.out _ I.out)).mono ?_; rintro e x4 ⟨rfl, hb⟩; replace I := Aside0.mk (I.out.step hb); clear hb))
                  all_goals
                    try go_wp2_with fail
                    go_roundw
                    case rel => exact ⟨j + 1, by omega, by go_num, I⟩
                    case measure => simp [intOf]; omega
                · go_wp2_with fail
                  go_roundw
                  case rel => exact ⟨k + 1, by omega, by go_num, I⟩
                  case measure => simp [intOf]; omega
            · go_wp2_with fail
              go_ret
              exact ⟨rfl, I.out.bel⟩
end Go.Proofs.YtopobangjpehnaaGreat.Seal
