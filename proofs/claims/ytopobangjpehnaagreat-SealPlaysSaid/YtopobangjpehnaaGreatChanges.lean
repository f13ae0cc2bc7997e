/- Both rows of slots beside one another; the law's step that changes a key. -/
import Derived.Test.YtopobangjpehnaaGreatBoth
import Derived.Deep.CutRange
set_option linter.unusedVariables false
set_option linter.unusedSimpArgs false
namespace Go.Proofs.YtopobangjpehnaaGreat.Seal
open Go.RowKit Go.Proofs.YtopobangjpehnaaGreatW.PrintWords Go.Proofs.YtopobangjpehnaaGreatW.PrintLast Go.Proofs.YtopobangjpehnaaGreatW.PrintMore Pr Des Num Walk

/-- All below B but the blocks c and d is as it was. -/
structure Kp2 (B c d : Nat) (w W : World) : Prop where
  os : W.os = w.os
  tape : W.tape = w.tape
  output : W.output = w.output
  size : w.heap.size ≤ W.heap.size
  block : ∀ k, k < B → k ≠ c → k ≠ d → W.heap[k]? = w.heap[k]?
theorem Kp2.of_below {B c d : Nat} {w W : World} (h : Below B w W) : Kp2 B c d w W := ⟨h.os, h.tape, h.output, h.size, fun k hk _ _ => h.block k hk⟩
theorem Kp2.of_fst {B c d : Nat} {w W : World} (h : Kp B c w W) : Kp2 B c d w W := ⟨h.os, h.tape, h.output, h.size, fun k hk hc _ => h.block k hk hc⟩
theorem Kp2.of_snd {B c d : Nat} {w W : World} (h : Kp B d w W) : Kp2 B c d w W := ⟨h.os, h.tape, h.output, h.size, fun k hk _ hd => h.block k hk hd⟩
theorem Kp2.mono {B B' c d : Nat} {w W : World} (h : Kp2 B c d w W) (hB : B' ≤ B) : Kp2 B' c d w W := ⟨h.os, h.tape, h.output, h.size, fun k hk hc hd => h.block k (Nat.lt_of_lt_of_le hk hB) hc hd⟩
theorem Kp2.also {B c d : Nat} {w1 w2 w3 : World} (h : Kp2 B c d w1 w2) (k : Kp2 B c d w2 w3) : Kp2 B c d w1 w3 :=
  ⟨k.os.trans h.os, k.tape.trans h.tape, k.output.trans h.output, Nat.le_trans h.size k.size, fun i hi hc hd => (k.block i hi hc hd).trans (h.block i hi hc hd)⟩
theorem Kp2.trans {B c d : Nat} {w1 w2 w3 : World} (h : Kp2 B c d w1 w2) (k : Below B w2 w3) : Kp2 B c d w1 w3 := h.also (.of_below k)
theorem Kp2.below {B B' c d : Nat} {w W : World} (h : Kp2 B c d w W) (hB : B' ≤ B) (hc : B' ≤ c) (hd : B' ≤ d) : Below B' w W := ⟨h.os, h.tape, h.output, h.size, fun k hk => h.block k (by omega) (by omega) (by omega)⟩

theorem RefAt.kp {w w' : World} {g b : Nat} {L : List SlotD} {c : Nat} (h : RefAt w g b L) (hb : Kp w.heap.size c w w') (hg : c ≠ g) (hc : c ≠ b) : RefAt w' g b L :=
  ⟨(hb.block g h.head.lt (Ne.symm hg)).trans h.head, (hb.block b h.body.lt (Ne.symm hc)).trans h.body⟩
/-- seal's row at g, b; the document's at g', b'. -/
structure Two (w : World) (g b g' b' : Nat) (L M : List SlotD) : Prop where
  s : SlotsAt w g b L
  r : RefAt w g' b' M
theorem Two.step {w w' : World} {g b g' b' : Nat} {L M : List SlotD} (h : Two w g b g' b' L M) (hb : Below w.heap.size w w') : Two w' g b g' b' L M := ⟨h.s.step hb, h.r.step hb⟩
theorem Two.fst {w w' : World} {g b g' b' : Nat} {L M L' : List SlotD} (h : Two w g b g' b' L M) (hs : SlotsAt w' g b L') (hb : Kp w.heap.size b w w') : Two w' g b g' b' L' M :=
  ⟨hs, h.r.kp hb (h.s.body.ne_ h.r.head (by decide)) (h.s.body.ne_ h.r.body (by decide))⟩
theorem Two.snd {w w' : World} {g b g' b' : Nat} {L M M' : List SlotD} (h : Two w g b g' b' L M) (hr : RefAt w' g' b' M') (hb : Kp w.heap.size b' w w') : Two w' g b g' b' L M' :=
  ⟨h.s.kp hb (h.r.body.ne_ h.s.head (by decide)) (h.r.body.ne_ h.s.body (by decide)), hr⟩
/-- The other two rows, where only these change. -/
theorem Two.kp2 {w w' : World} {g b g' b' : Nat} {L M : List SlotD} {c d : Nat} (h : Two w g b g' b' L M) (hb : Kp2 w.heap.size c d w w') (h1 : b ≠ c) (h2 : b' ≠ d) (h3 : g ≠ c) (h4 : g ≠ d) (h5 : b ≠ d) (h6 : g' ≠ c) (h7 : g' ≠ d) (h8 : b' ≠ c) : Two w' g b g' b' L M :=
  ⟨⟨(hb.block g h.s.head.lt h3 h4).trans h.s.head, (hb.block b h.s.body.lt h1 h5).trans h.s.body⟩, ⟨(hb.block g' h.r.head.lt h6 h7).trans h.r.head, (hb.block b' h.r.body.lt h8 h2).trans h.r.body⟩⟩

theorem put_two (L : List SlotD) (hL : GoodL L) (i alg m : Int) (key exch : ByteArray) (g b g' b' : Nat) : ∃ (E : Int) (L' : List SlotD), GoodL L' ∧ L'.length = L.length ∧
    (∀ w : World, Two w g b g' b' L L → Calls Tryz.prog 13 #[.pointer (some ⟨g, 0, none⟩), .int .i64 i, .int .i64 alg, .int .i64 m, .string key, .string exch] w fun e w' => e = .returned (.int .i64 E) ∧ Two w' g b g' b' L' L ∧ Kp2 w.heap.size b b' w w') ∧
    (∀ w : World, Two w g b g' b' L' L → Calls Tryz.prog 14 #[.pointer (some ⟨g', 0, none⟩), .int .i64 i, .int .i64 alg, .int .i64 m, .string key, .string exch] w fun e w' => e = .returned (.int .i64 E) ∧ Two w' g b g' b' L' L' ∧ Kp2 w.heap.size b b' w w') := by
  obtain ⟨E, L', h1, h2, h3, h4⟩ := put_both L hL i alg m key exch
  exact ⟨E, L', h1, h2, fun w h => (h3 g b w h.s).mono fun e w' ⟨he, hs, hk⟩ => ⟨he, h.fst hs hk, .of_fst hk⟩, fun w h => (h4 g' b' w h.r).mono fun e w' ⟨he, hr, hk⟩ => ⟨he, h.snd hr hk, .of_snd hk⟩⟩
theorem change_two (L : List SlotD) (hL : GoodL L) (i : Int) (wrapped check : ByteArray) (g b g' b' : Nat) : ∃ (E : Int) (L' : List SlotD), GoodL L' ∧ L'.length = L.length ∧
    (∀ w : World, Two w g b g' b' L L → Calls Tryz.prog 31 #[.pointer (some ⟨g, 0, none⟩), .int .i64 i, .string wrapped, .string check] w fun e w' => e = .returned (.int .i64 E) ∧ Two w' g b g' b' L' L ∧ Kp2 w.heap.size b b' w w') ∧
    (∀ w : World, Two w g b g' b' L' L → Calls Tryz.prog 32 #[.pointer (some ⟨g', 0, none⟩), .int .i64 i, .string wrapped, .string check] w fun e w' => e = .returned (.int .i64 E) ∧ Two w' g b g' b' L' L' ∧ Kp2 w.heap.size b b' w w') := by
  obtain ⟨E, L', h1, h2, h3, h4⟩ := change_both L hL i wrapped check
  exact ⟨E, L', h1, h2, fun w h => (h3 g b w h.s).mono fun e w' ⟨he, hs, hk⟩ => ⟨he, h.fst hs hk, .of_fst hk⟩, fun w h => (h4 g' b' w h.r).mono fun e w' ⟨he, hr, hk⟩ => ⟨he, h.snd hr hk, .of_snd hk⟩⟩
theorem round_two (L : List SlotD) (i : Int) (g b g' b' : Nat) : ∃ (r : Int),
    (∀ w : World, Two w g b g' b' L L → Calls Tryz.prog 10 #[.pointer (some ⟨g, 0, none⟩), .int .i64 i] w fun e w' => e = .returned (.int .i64 r) ∧ Below w.heap.size w w') ∧
    (∀ w : World, Two w g b g' b' L L → Calls Tryz.prog 11 #[.pointer (some ⟨g', 0, none⟩), .int .i64 i] w fun e w' => e = .returned (.int .i64 r) ∧ Below w.heap.size w w') := by
  obtain ⟨r, h1, h2⟩ := round_both L i
  exact ⟨r, fun w h => h1 g b w h.s, fun w h => h2 g' b' w h.r⟩
theorem tag_two (L : List SlotD) (i : Int) (s : ByteArray) (hs : s.size ≤ 140737488354000) (g b g' b' : Nat) : ∃ (T : ByteArray) (E : Int), T.size ≤ 8 ∧
    (∀ w : World, Two w g b g' b' L L → Calls Tryz.prog 8 #[.pointer (some ⟨g, 0, none⟩), .int .i64 i, .string s] w fun e w' => e = .returned (.tuple #[.string T, .int .i64 E]) ∧ Below w.heap.size w w') ∧
    (∀ w : World, Two w g b g' b' L L → Calls Tryz.prog 9 #[.pointer (some ⟨g', 0, none⟩), .int .i64 i, .string s] w fun e w' => e = .returned (.tuple #[.string T, .int .i64 E]) ∧ Below w.heap.size w w') := by
  obtain ⟨T, E, h0, h1, h2⟩ := tag_both L i s hs
  exact ⟨T, E, h0, fun w h => h1 g b w h.s, fun w h => h2 g' b' w h.r⟩
theorem right_two (L : List SlotD) (i : Int) (s t : ByteArray) (hs : s.size ≤ 140737488354000) (g b g' b' : Nat) : ∃ (X : Bool) (E : Int),
    (∀ w : World, Two w g b g' b' L L → Calls Tryz.prog 17 #[.pointer (some ⟨g, 0, none⟩), .int .i64 i, .string s, .string t] w fun e w' => e = .returned (.tuple #[.bool X, .int .i64 E]) ∧ Below w.heap.size w w') ∧
    (∀ w : World, Two w g b g' b' L L → Calls Tryz.prog 18 #[.pointer (some ⟨g', 0, none⟩), .int .i64 i, .string s, .string t] w fun e w' => e = .returned (.tuple #[.bool X, .int .i64 E]) ∧ Below w.heap.size w w') := by
  obtain ⟨X, E, h1, h2⟩ := right_both L i s t hs
  exact ⟨X, E, fun w h => h1 g b w h.s, fun w h => h2 g' b' w h.r⟩

/-- One step of a script. -/
structure OpD where
  kind : Int
  on : Int
  slot : Int
  alg : Int
  method : Int
  key : ByteArray
  exch : ByteArray
  text : ByteArray
def opCells (o : OpD) : Array Value := #[.int .i64 o.kind, .int .i64 o.on, .int .i64 o.slot, .int .i64 o.alg, .int .i64 o.method, .string o.key, .string o.exch, .string o.text]
abbrev I64 (c : Int) : Prop := -9223372036854775808 ≤ c ∧ c ≤ 9223372036854775807
structure GoodO (o : OpD) : Prop where
  kind : I64 o.kind
  on : I64 o.on
  slot : I64 o.slot
  alg : I64 o.alg
  method : I64 o.method
  key : o.key.size ≤ 140737488351232
  exch : o.exch.size ≤ 140737488351232
  text : o.text.size ≤ 140737488351232
theorem op_cells {w : World} {g : Nat} {o : OpD} (h : Blk w g 35 (opCells o)) : w.cell? ⟨g, 0, none⟩ = some (.int .i64 o.kind) ∧ w.cell? ⟨g, 2, none⟩ = some (.int .i64 o.slot) ∧ w.cell? ⟨g, 3, none⟩ = some (.int .i64 o.alg) ∧ w.cell? ⟨g, 4, none⟩ = some (.int .i64 o.method) ∧
    w.cell? ⟨g, 5, none⟩ = some (.string o.key) ∧ w.cell? ⟨g, 6, none⟩ = some (.string o.exch) ∧ w.cell? ⟨g, 7, none⟩ = some (.string o.text) :=
  ⟨h.cell 0, h.cell 2, h.cell 3, h.cell 4, h.cell 5, h.cell 6, h.cell 7⟩
theorem ref_cells {w : World} {g : Nat} {x : SlotD} (h : Blk w g 65 (refCells x).toArray) : w.cell? ⟨g, 0, none⟩ = some (.bool (x.alg != 0)) ∧ w.cell? ⟨g, 1, none⟩ = some (.int .i64 x.alg) ∧ w.cell? ⟨g, 2, none⟩ = some (.int .i64 x.method) ∧
    w.cell? ⟨g, 3, none⟩ = some (.string x.key) ∧ w.cell? ⟨g, 4, none⟩ = some (.string x.exchange) ∧ w.cell? ⟨g, 5, none⟩ = some (.int .i64 x.round) := ⟨h.cell 0, h.cell 1, h.cell 2, h.cell 3, h.cell 4, h.cell 5⟩
theorem key_n {x : SlotD} (h : GoodS x) : ∃ n : Int, (n = 8 ∨ n = 16) ∧ max (x.key.size : Int) 8 = n := by
  rcases h with rfl | ⟨hw, hk, _⟩
  · exact ⟨8, .inl rfl, rfl⟩
  · rcases wants_816 hw with h | h <;> rw [hk, h]
    · exact ⟨8, .inl rfl, rfl⟩
    · exact ⟨16, .inr rfl, rfl⟩
theorem exch_016 {x : SlotD} (h : GoodS x) : x.exchange.size = 0 ∨ x.exchange.size = 16 := by
  rcases h with rfl | ⟨_, _, h, _⟩
  · exact .inl rfl
  · exact h

set_option maxHeartbeats 16000000 in
set_option maxRecDepth 100000 in
theorem changes_any (L : List SlotD) (hL : GoodL L) (hn32 : L.length ≤ 32) (i : Int) (hi : -1 ≤ i ∧ i ≤ L.length) (o : OpD) (ho : GoodO o) (g b g' b' : Nat) (w : World) (h : Two w g b g' b' L L) :
    Calls Tryz.prog 19 #[.pointer (some ⟨g, 0, none⟩), .pointer (some ⟨g', 0, none⟩), .int .i64 i, .agg (opCells o)] w fun e w' => e = .returned (.bool true) ∧ ∃ L', GoodL L' ∧ L'.length = L.length ∧ Two w' g b g' b' L' L' ∧ Kp2 w.heap.size b b' w w' := by
  have S := Aside0.mk (h.step (below_alloc (Below.refl w.heap.size w) (.cells (opCells o) 35)))
  have B : Aside0 (Below w.heap.size w (w.alloc (.cells (opCells o) 35))) := ⟨below_alloc (Below.refl _ _) _⟩
  have G : Aside0 (Blk (w.alloc (.cells (opCells o) 35)) w.heap.size 35 (opCells o)) := ⟨Blk.new w 35 _⟩
  have HO := Aside0.mk ho
  have HL := Aside0.mk hL
  have HI := Aside0.mk hi
  clear h ho hL hi
  have hw1 : w.alloc (.cells (opCells o) 35) = w.alloc (.cells #[.int .i64 o.kind, .int .i64 o.on, .int .i64 o.slot, .int .i64 o.alg, .int .i64 o.method, .string o.key, .string o.exch, .string o.text] 35) := rfl
  rw [hw1] at S B G
  clear hw1
  rw [show opCells o = #[.int .i64 o.kind, .int .i64 o.on, .int .i64 o.slot, .int .i64 o.alg, .int .i64 o.method, .string o.key, .string o.exch, .string o.text] from rfl]
  go_enter Tryz.func19, Tryz.ntmps19
  go_upto_region 1 with fail
  generalize w.alloc (.cells #[.int .i64 o.kind, .int .i64 o.on, .int .i64 o.slot, .int .i64 o.alg, .int .i64 o.method, .string o.key, .string o.exch, .string o.text] 35) = w1 at *
  obtain ⟨q0, q2, q3, q4, q5, q6, q7⟩ := op_cells G.out
  go_upto_if 22 with fail
  go_cut [9, 10] from 11 to 89 (fun v9 v10 wx => ∃ wv cv : ByteArray, v9 = .string wv ∧ v10 = .string cv ∧ Aside0 (Two wx g b g' b' L L) ∧ Aside0 (Below w.heap.size w wx))
  case first =>
    rcases hk6 : (o.kind != 6) with _ | _
    · go_wp2_with fail
      go_meet
      exact ⟨o.key, o.text, rfl, rfl, S, B⟩
    · go_upto_region 5 with fail
      clear q0 q2 q3 q4 q5 q6 q7
      have c0 := (S.out.step (below_alloc (Below.refl w1.heap.size w1) (.cells #[.bool false, .int .i64 0, .int .i64 0, .string ⟨#[]⟩, .string ⟨#[]⟩, .int .i64 0] 65))).r.cell0
      go_cut [34] from 24 to 34 (fun v34 wx => ∃ bb : Bool, v34 = .bool bb ∧ (bb = true → 0 ≤ i ∧ i < L.length) ∧ wx = w1.alloc (.cells #[.bool false, .int .i64 0, .int .i64 0, .string ⟨#[]⟩, .string ⟨#[]⟩, .int .i64 0] 65))
      case first =>
        rcases idx L.length i with (hi1 | hi1) | ⟨k, rfl, hk⟩
        · go_wp2_with fail
          go_meet
          exact ⟨false, rfl, (fun h => nomatch h), rfl⟩
        · have hi0 : (0 : Int) ≤ i := by omega
          go_wp2_with fail
          go_meet
          exact ⟨false, congrArg Value.bool (decide_eq_false (by omega)), (fun h => nomatch h), rfl⟩
        · go_wp2_with fail
          go_meet
          exact ⟨true, rfl, (fun _ => by omega), rfl⟩
      case rest =>
        obtain ⟨bb, rfl, hbb, rfl⟩ := hcut
        go_upto_if 34 with fail
        go_cut [] from 24 to 41 (fun wx => ∃ x, GoodS x ∧ Aside0 (Blk wx w1.heap.size 65 (refCells x).toArray) ∧ Aside0 (Two wx g b g' b' L L) ∧ Aside0 (Below w.heap.size w wx) ∧ Aside0 (Blk wx w.heap.size 35 (opCells o)))
        case first =>
          rcases bb with _ | _
          · go_wp2_with fail
            go_meet
            exact ⟨emptySlot, .inl rfl, ⟨Blk.new w1 65 _⟩, ⟨S.out.step (below_alloc (Below.refl _ w1) _)⟩, ⟨below_alloc B.out _⟩, ⟨G.out.step (below_alloc (Below.refl _ w1) _)⟩⟩
          · obtain ⟨k, rfl⟩ := Int.eq_ofNat_of_zero_le (hbb rfl).1
            have hk : k < L.length := by have := (hbb rfl).2; omega
            clear hbb
            have hx := HL.out.at k hk
            obtain ⟨q0, q1, q2, q3, q4, q5⟩ := (S.out.step (below_alloc (Below.refl w1.heap.size w1) (.cells #[.bool false, .int .i64 0, .int .i64 0, .string ⟨#[]⟩, .string ⟨#[]⟩, .int .i64 0] 65))).r.slot k hk
            have hne : b' ≠ w1.heap.size := Nat.ne_of_lt S.out.r.body.lt
            generalize L[k] = x at *
            generalize hbx : (x.alg != 0) = bx at *
            go_wp2_with fail
            go_meet
            subst hbx
            exact ⟨x, hx, ⟨Blk.new w1 65 _⟩, ⟨S.out.step (below_alloc (Below.refl _ w1) _)⟩, ⟨below_alloc B.out _⟩, ⟨G.out.step (below_alloc (Below.refl _ w1) _)⟩⟩
        case rest =>
          clear c0 hbb S B G
          obtain ⟨x, hx, X, S, B, G⟩ := hcut
          generalize w1.heap.size = bx at *
          obtain ⟨n, hn, hmx⟩ := key_n hx
          have he := exch_016 hx
          have hkz := HO.out.key
          have FT := Aside0.mk (fitted_any o.key n hn (by omega))
          have hK1 : ((fitS o.key n.toNat).size : Int) = n := by rw [fitS_size]; omega
          generalize fitS o.key n.toNat = K1 at *
          obtain ⟨K2, hK2, wk⟩ := weak4_any n hn o.alg HO.out.alg
          have WK := Aside0.mk wk
          obtain ⟨m, hm, hwm⟩ : ∃ m : Int, (m = 8 ∨ m = 16) ∧ IntKind.i64.wrap (24 - n) = m := ⟨24 - n, by omega, IntWalk.i64_in _ (by omega)⟩
          have FM := Aside0.mk (fitted_any o.key m hm (by omega))
          have hK3 : ((fitS o.key m.toNat).size : Int) = m := by rw [fitS_size]; omega
          generalize fitS o.key m.toNat = K3 at *
          obtain ⟨r7, _, _, p7⟩ := pickI_any o.method 8 HO.out.method (by decide) (by decide)
          obtain ⟨r5, _, _, p5⟩ := pickI_any o.alg 5 HO.out.alg (by decide) (by decide)
          have P7 := Aside0.mk p7
          have P5 := Aside0.mk p5
          have H0 := Aside0.mk (And.intro hn hm)
          have H1 := Aside0.mk hK1
          have H2 := Aside0.mk hK2
          have H3 := Aside0.mk hK3
          have HE := Aside0.mk he
          clear wk p7 p5 hkz hK1 hK2 hK3 hn hm he hx
          obtain ⟨d0, d1, d2, d3, d4, d5⟩ := ref_cells X.out
          obtain ⟨q0, q2, q3, q4, q5, q6, q7⟩ := op_cells G.out
          go_wp2_with fail
          clear d0 d1 d2 d3 d4 d5 q0 q2 q3 q4 q5 q6 q7
          refine (FT.out _).mono ?_
          rintro e y1 ⟨rfl, hb⟩
          replace B := Aside0.mk (B.out.trans (hb.mono B.out.size))
          replace S := Aside0.mk (S.out.step hb)
          replace G := Aside0.mk (G.out.step hb)
          replace X := Aside0.mk (X.out.step hb)
          clear hb
          obtain ⟨q0, q2, q3, q4, q5, q6, q7⟩ := op_cells G.out
          go_upto_if 52 with fail
          go_cut [13] from 46 to 56 (fun v13 wx => ∃ K : ByteArray, v13 = .string K ∧ (K.size : Int) = n ∧ Aside0 (Blk wx bx 65 (refCells x).toArray) ∧ Aside0 (Two wx g b g' b' L L) ∧ Aside0 (Below w.heap.size w wx) ∧ Aside0 (Blk wx w.heap.size 35 (opCells o)))
          case first =>
            rcases hk8 : (o.kind == 8) with _ | _
            · go_wp2_with fail
              go_meet
              exact ⟨K1, rfl, H1.out, X, S, B, G⟩
            · go_wp2_with fail
              clear q0 q2 q3 q4 q5 q6 q7
              refine (WK.out _).mono ?_
              rintro e y2 ⟨rfl, hb⟩
              replace B := Aside0.mk (B.out.trans (hb.mono B.out.size))
              replace S := Aside0.mk (S.out.step hb)
              replace G := Aside0.mk (G.out.step hb)
              replace X := Aside0.mk (X.out.step hb)
              clear hb
              go_wp2_with fail
              go_meet
              exact ⟨K2, rfl, H2.out, X, S, B, G⟩
          case rest =>
            clear q0 q2 q3 q4 q5 q6 q7 X S B G FT WK
            obtain ⟨K, rfl, hK, X, S, B, G⟩ := hcut
            obtain ⟨V, C, hC, wr⟩ := wrapped_any x HE.out K (by have := H0.out; omega)
            obtain ⟨V3, C3, hC3, wr3⟩ := wrapped_any x HE.out K3 (by have := H0.out; have := H3.out; omega)
            obtain ⟨T, bt⟩ := bent_any C (by omega) o.alg HO.out.alg
            obtain ⟨T3, bt3⟩ := bent_any C3 (by omega) o.alg HO.out.alg
            have W1 := Aside0.mk wr
            have W3 := Aside0.mk wr3
            have T1 := Aside0.mk bt
            have T2 := Aside0.mk bt3
            clear wr wr3 bt bt3 hC hC3 hK
            obtain ⟨bb, hbb⟩ : ∃ bb : Bool, (x.alg != 0) = bb := ⟨_, rfl⟩
            have HBB := Aside0.mk hbb
            rw [hbb] at W1 W3
            clear hbb
            rcases hk7 : (o.kind == 7) with _ | _
            · skip
              obtain ⟨d0, d1, d2, d3, d4, d5⟩ := ref_cells X.out
              rw [HBB.out] at d0
              obtain ⟨q0, q2, q3, q4, q5, q6, q7⟩ := op_cells G.out
              go_wp2_with fail
              clear d0 d1 d2 d3 d4 d5 q0 q2 q3 q4 q5 q6 q7
              refine (W1.out _).mono ?_
              rintro e y3 ⟨rfl, hb⟩
              replace B := Aside0.mk (B.out.trans (hb.mono B.out.size))
              replace S := Aside0.mk (S.out.step hb)
              replace G := Aside0.mk (G.out.step hb)
              replace X := Aside0.mk (X.out.step hb)
              clear hb
              obtain ⟨d0, d1, d2, d3, d4, d5⟩ := ref_cells X.out
              rw [HBB.out] at d0
              obtain ⟨q0, q2, q3, q4, q5, q6, q7⟩ := op_cells G.out
              go_wp2_with fail
              go_meet
              exact ⟨V, C, rfl, rfl, S, B⟩
            · skip
              obtain ⟨d0, d1, d2, d3, d4, d5⟩ := ref_cells X.out
              rw [HBB.out] at d0
              obtain ⟨q0, q2, q3, q4, q5, q6, q7⟩ := op_cells G.out
              go_wp2_with fail
              clear d0 d1 d2 d3 d4 d5 q0 q2 q3 q4 q5 q6 q7
              refine (P7.out _).mono ?_
              rintro e y3 ⟨rfl, hb⟩
              replace B := Aside0.mk (B.out.trans (hb.mono B.out.size))
              replace S := Aside0.mk (S.out.step hb)
              replace G := Aside0.mk (G.out.step hb)
              replace X := Aside0.mk (X.out.step hb)
              clear hb
              rcases h7 : (r7 == 7) with _ | _
              · skip
                obtain ⟨d0, d1, d2, d3, d4, d5⟩ := ref_cells X.out
                rw [HBB.out] at d0
                obtain ⟨q0, q2, q3, q4, q5, q6, q7⟩ := op_cells G.out
                go_wp2_with fail
                clear d0 d1 d2 d3 d4 d5 q0 q2 q3 q4 q5 q6 q7
                refine (W1.out _).mono ?_
                rintro e y4 ⟨rfl, hb⟩
                replace B := Aside0.mk (B.out.trans (hb.mono B.out.size))
                replace S := Aside0.mk (S.out.step hb)
                replace G := Aside0.mk (G.out.step hb)
                replace X := Aside0.mk (X.out.step hb)
                clear hb
                obtain ⟨d0, d1, d2, d3, d4, d5⟩ := ref_cells X.out
                rw [HBB.out] at d0
                obtain ⟨q0, q2, q3, q4, q5, q6, q7⟩ := op_cells G.out
                go_wp2_with fail
                clear d0 d1 d2 d3 d4 d5 q0 q2 q3 q4 q5 q6 q7
                refine (P5.out _).mono ?_
                rintro e y5 ⟨rfl, hb⟩
                replace B := Aside0.mk (B.out.trans (hb.mono B.out.size))
                replace S := Aside0.mk (S.out.step hb)
                replace G := Aside0.mk (G.out.step hb)
                replace X := Aside0.mk (X.out.step hb)
                clear hb
                rcases h5 : (r5 == 4) with _ | _
                · go_wp2_with fail
                  go_meet
                  exact ⟨V, C, rfl, rfl, S, B⟩
                · skip
                  obtain ⟨d0, d1, d2, d3, d4, d5⟩ := ref_cells X.out
                  rw [HBB.out] at d0
                  obtain ⟨q0, q2, q3, q4, q5, q6, q7⟩ := op_cells G.out
                  go_wp2_with fail
                  clear d0 d1 d2 d3 d4 d5 q0 q2 q3 q4 q5 q6 q7
                  refine (T1.out _).mono ?_
                  rintro e y6 ⟨rfl, hb⟩
                  replace B := Aside0.mk (B.out.trans (hb.mono B.out.size))
                  replace S := Aside0.mk (S.out.step hb)
                  replace G := Aside0.mk (G.out.step hb)
                  replace X := Aside0.mk (X.out.step hb)
                  clear hb
                  go_wp2_with fail
                  go_meet
                  exact ⟨V, T, rfl, rfl, S, B⟩
              · skip
                obtain ⟨d0, d1, d2, d3, d4, d5⟩ := ref_cells X.out
                rw [HBB.out] at d0
                obtain ⟨q0, q2, q3, q4, q5, q6, q7⟩ := op_cells G.out
                go_wp2_with fail
                clear d0 d1 d2 d3 d4 d5 q0 q2 q3 q4 q5 q6 q7
                refine (FM.out _).mono ?_
                rintro e y8 ⟨rfl, hb⟩
                replace B := Aside0.mk (B.out.trans (hb.mono B.out.size))
                replace S := Aside0.mk (S.out.step hb)
                replace G := Aside0.mk (G.out.step hb)
                replace X := Aside0.mk (X.out.step hb)
                clear hb
                obtain ⟨d0, d1, d2, d3, d4, d5⟩ := ref_cells X.out
                rw [HBB.out] at d0
                obtain ⟨q0, q2, q3, q4, q5, q6, q7⟩ := op_cells G.out
                go_wp2_with fail
                clear d0 d1 d2 d3 d4 d5 q0 q2 q3 q4 q5 q6 q7
                refine (W3.out _).mono ?_
                rintro e y4 ⟨rfl, hb⟩
                replace B := Aside0.mk (B.out.trans (hb.mono B.out.size))
                replace S := Aside0.mk (S.out.step hb)
                replace G := Aside0.mk (G.out.step hb)
                replace X := Aside0.mk (X.out.step hb)
                clear hb
                obtain ⟨d0, d1, d2, d3, d4, d5⟩ := ref_cells X.out
                rw [HBB.out] at d0
                obtain ⟨q0, q2, q3, q4, q5, q6, q7⟩ := op_cells G.out
                go_wp2_with fail
                clear d0 d1 d2 d3 d4 d5 q0 q2 q3 q4 q5 q6 q7
                refine (P5.out _).mono ?_
                rintro e y5 ⟨rfl, hb⟩
                replace B := Aside0.mk (B.out.trans (hb.mono B.out.size))
                replace S := Aside0.mk (S.out.step hb)
                replace G := Aside0.mk (G.out.step hb)
                replace X := Aside0.mk (X.out.step hb)
                clear hb
                rcases h5 : (r5 == 4) with _ | _
                · go_wp2_with fail
                  go_meet
                  exact ⟨V3, C3, rfl, rfl, S, B⟩
                · skip
                  obtain ⟨d0, d1, d2, d3, d4, d5⟩ := ref_cells X.out
                  rw [HBB.out] at d0
                  obtain ⟨q0, q2, q3, q4, q5, q6, q7⟩ := op_cells G.out
                  go_wp2_with fail
                  clear d0 d1 d2 d3 d4 d5 q0 q2 q3 q4 q5 q6 q7
                  refine (T2.out _).mono ?_
                  rintro e y6 ⟨rfl, hb⟩
                  replace B := Aside0.mk (B.out.trans (hb.mono B.out.size))
                  replace S := Aside0.mk (S.out.step hb)
                  replace G := Aside0.mk (G.out.step hb)
                  replace X := Aside0.mk (X.out.step hb)
                  clear hb
                  go_wp2_with fail
                  go_meet
                  exact ⟨V3, T3, rfl, rfl, S, B⟩
  case rest =>
    clear S B G q0 q2 q3 q4 q5 q6 q7
    obtain ⟨wv, cv, rfl, rfl, S, B⟩ := hcut
    obtain ⟨E, L', hG, hl, c1, c2⟩ := change_two L HL.out i wv cv g b g' b'
    obtain ⟨r, r1, r2⟩ := round_two L' i g b g' b'
    have C1 := Aside0.mk c1
    have C2 := Aside0.mk c2
    have R1 := Aside0.mk r1
    have R2 := Aside0.mk r2
    clear c1 c2 r1 r2
    go_wp2_with fail
    refine (C1.out _ S.out).mono ?_
    rintro e x1 ⟨rfl, hS, hb⟩
    have K := Aside0.mk ((Kp2.of_below (c := b) (d := b') B.out).also (hb.mono B.out.size))
    replace S := Aside0.mk hS
    clear hS hb B
    go_wp2_with fail
    refine (C2.out _ S.out).mono ?_
    rintro e x2 ⟨rfl, hS, hb⟩
    replace K := Aside0.mk (K.out.also (hb.mono K.out.size))
    replace S := Aside0.mk hS
    clear hS hb
    go_wp2_with fail
    refine (R1.out _ S.out).mono ?_
    rintro e x3 ⟨rfl, hb⟩
    replace K := Aside0.mk (K.out.trans (hb.mono K.out.size))
    replace S := Aside0.mk (S.out.step hb)
    clear hb
    go_wp2_with fail
    refine (R2.out _ S.out).mono ?_
    rintro e x4 ⟨rfl, hb⟩
    replace K := Aside0.mk (K.out.trans (hb.mono K.out.size))
    replace S := Aside0.mk (S.out.step hb)
    clear hb
    go_wp2_with fail
    go_ret
    exact ⟨by simp, L', hG, hl, S.out, K.out⟩
end Go.Proofs.YtopobangjpehnaaGreat.Seal
