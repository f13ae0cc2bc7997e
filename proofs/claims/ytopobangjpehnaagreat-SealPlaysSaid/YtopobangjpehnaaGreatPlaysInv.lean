/- Two pairs of rows in memory: what holds of them from step to step. -/
import Derived.Test.YtopobangjpehnaaGreatPlay
set_option linter.unusedVariables false
set_option linter.unusedSimpArgs false
namespace Go.Proofs.YtopobangjpehnaaGreat.Seal
open Go.RowKit Go.Proofs.YtopobangjpehnaaGreatW.PrintWords Go.Proofs.YtopobangjpehnaaGreatW.PrintLast Go.Proofs.YtopobangjpehnaaGreatW.PrintMore Pr Des Num Walk

/-- A pair of rows: seal's at g, b, the document's at g', b', the slots of both. -/
structure RowD where
  g : Nat
  b : Nat
  g' : Nat
  b' : Nat
  L : List SlotD
abbrev RowD.At (r : RowD) (w : World) : Prop := Two w r.g r.b r.g' r.b' r.L r.L
def ptrS (r : RowD) : Value := .pointer (some ⟨r.g, 0, none⟩)
def ptrR (r : RowD) : Value := .pointer (some ⟨r.g', 0, none⟩)
/-- While they are made: m pairs there are, n of them in the one list, n' in the other. -/
structure Inv1 (w0 w : World) (n n' m : Nat) (v v' : Value) (R : Nat → RowD) : Prop where
  bel : Below w0.heap.size w0 w
  rows : ∀ k, k < m → (R k).At w
  good : ∀ k, k < m → GoodL (R k).L ∧ 1 ≤ (R k).L.length ∧ (R k).L.length ≤ 32
  base : ∀ k, k < m → w0.heap.size ≤ (R k).b ∧ w0.heap.size ≤ (R k).b'
  ne : ∀ j k, j < m → k < m → j ≠ k → (R j).b ≠ (R k).b ∧ (R j).b' ≠ (R k).b'
  own : w.ownsRow w0.heap.size 26 1 v n ((List.range n).map fun k => ptrS (R k))
  own' : w.ownsRow w0.heap.size 30 1 v' n' ((List.range n').map fun k => ptrR (R k))
theorem Inv1.start (w0 : World) (R : Nat → RowD) : Inv1 w0 w0 0 0 0 (.slice none 0 0) (.slice none 0 0) R :=
  ⟨Below.refl _ _, fun k h => absurd h (by omega), fun k h => absurd h (by omega), fun k h => absurd h (by omega), fun j k h => absurd h (by omega), own_nil _ _ _ _, own_nil _ _ _ _⟩
theorem Inv1.step {w0 w w' : World} {n n' m : Nat} {v v' : Value} {R : Nat → RowD} (h : Inv1 w0 w n n' m v v' R) (hb : Below w.heap.size w w') : Inv1 w0 w' n n' m v v' R :=
  ⟨h.bel.trans (hb.mono h.bel.size), fun k hk => (h.rows k hk).step hb, h.good, h.base, h.ne, pw_own_below h.own hb, pw_own_below h.own' hb⟩
def more1 (R : Nat → RowD) (m : Nat) (r : RowD) (k : Nat) : RowD := if k = m then r else R k
theorem more1_same (R : Nat → RowD) (m : Nat) (r : RowD) : more1 R m r m = r := if_pos rfl
theorem more1_lt (R : Nat → RowD) {m k : Nat} (r : RowD) (h : k < m) : more1 R m r k = R k := if_neg (by omega)
theorem map_more (R : Nat → RowD) (m n : Nat) (r : RowD) (f : RowD → Value) (h : n ≤ m) : ((List.range n).map fun k => f (more1 R m r k)) = (List.range n).map fun k => f (R k) :=
  List.map_congr_left fun k hk => by rw [more1_lt R r (Nat.lt_of_lt_of_le (List.mem_range.1 hk) h)]
/-- A new pair. -/
theorem Inv1.add {w0 w : World} {n n' m : Nat} {v v' : Value} {R : Nat → RowD} (h : Inv1 w0 w n n' m v v' R) (hn : n ≤ m) (hn' : n' ≤ m) (r : RowD) (hr : r.At w) (hg : GoodL r.L ∧ 1 ≤ r.L.length ∧ r.L.length ≤ 32)
    (hb : w0.heap.size ≤ r.b ∧ w0.heap.size ≤ r.b') (hne : ∀ k, k < m → (R k).b < r.b ∧ (R k).b' < r.b') : Inv1 w0 w n n' (m + 1) v v' (more1 R m r) := by
  have go : ∀ k, k < m + 1 → k < m ∧ more1 R m r k = R k ∨ k = m ∧ more1 R m r k = r := fun k hk => by
    by_cases e : k = m
    · subst e; exact .inr ⟨rfl, more1_same _ _ _⟩
    · have hk' : k < m := by omega
      exact .inl ⟨hk', more1_lt _ _ hk'⟩
  refine ⟨h.bel, fun k hk => ?_, fun k hk => ?_, fun k hk => ?_, fun j k hj hk hjk => ?_, ?_, ?_⟩
  · rcases go k hk with ⟨h1, e⟩ | ⟨h1, e⟩ <;> rw [e]
    · exact h.rows k h1
    · exact hr
  · rcases go k hk with ⟨h1, e⟩ | ⟨h1, e⟩ <;> rw [e]
    · exact h.good k h1
    · exact hg
  · rcases go k hk with ⟨h1, e⟩ | ⟨h1, e⟩ <;> rw [e]
    · exact h.base k h1
    · exact hb
  · rcases go j hj with ⟨h1, e⟩ | ⟨h1, e⟩ <;> rcases go k hk with ⟨h2, e2⟩ | ⟨h2, e2⟩ <;> rw [e, e2]
    · exact h.ne j k h1 h2 hjk
    · have := hne j h1; exact ⟨Nat.ne_of_lt this.1, Nat.ne_of_lt this.2⟩
    · have := hne k h2; exact ⟨Nat.ne_of_gt this.1, Nat.ne_of_gt this.2⟩
    · omega
  · rw [map_more R m n r ptrS hn]; exact h.own
  · rw [map_more R m n' r ptrR hn']; exact h.own'
theorem blk_grown {w w1 : World} {k : Nat} {t e : TypeId} {cs : Array Value} {base n : Nat} {v : Value} {xs : List Value} (h : Blk w k t cs) (hg : w.grownBy w1 v.ownBlock) (ho : w.ownsRow base e 1 v n xs) (hne : e ≠ t) : Blk w1 k t cs :=
  (hg.block k (Walk.Blk.lt h) (own_ne ho h hne)).trans h
theorem at_grown {w w1 : World} {r : RowD} {e : TypeId} {base n : Nat} {v : Value} {xs : List Value} (h : r.At w) (hg : w.grownBy w1 v.ownBlock) (ho : w.ownsRow base e 1 v n xs) (h1 : e ≠ 53) (h2 : e ≠ 62) (h3 : e ≠ 39) (h4 : e ≠ 65) : r.At w1 :=
  ⟨⟨blk_grown h.s.head hg ho h1, blk_grown h.s.body hg ho h2⟩, ⟨blk_grown h.r.head hg ho h3, blk_grown h.r.body hg ho h4⟩⟩
theorem Inv1.fst {w0 w w1 : World} {n n' m : Nat} {v v' v1 : Value} {R : Nat → RowD} (h : Inv1 w0 w n n' m v v' R) (ho : w1.ownsRow w0.heap.size 26 1 v1 (n + 1) ((List.range n).map (fun k => ptrS (R k)) ++ [ptrS (R n)])) (hb : Below w0.heap.size w0 w1) (hg : w.grownBy w1 v.ownBlock) :
    Inv1 w0 w1 (n + 1) n' m v1 v' R :=
  ⟨hb, fun k hk => at_grown (h.rows k hk) hg h.own (by decide) (by decide) (by decide) (by decide), h.good, h.base, h.ne, by rw [List.range_succ, List.map_append]; exact ho, own_other h.own' hg (own_type_ne h.own' h.own (by decide))⟩
theorem Inv1.snd {w0 w w1 : World} {n n' m : Nat} {v v' v1 : Value} {R : Nat → RowD} (h : Inv1 w0 w n n' m v v' R) (ho : w1.ownsRow w0.heap.size 30 1 v1 (n' + 1) ((List.range n').map (fun k => ptrR (R k)) ++ [ptrR (R n')])) (hb : Below w0.heap.size w0 w1) (hg : w.grownBy w1 v'.ownBlock) :
    Inv1 w0 w1 n (n' + 1) m v v1 R :=
  ⟨hb, fun k hk => at_grown (h.rows k hk) hg h.own' (by decide) (by decide) (by decide) (by decide), h.good, h.base, h.ne, own_other h.own hg (own_type_ne h.own h.own' (by decide)), by rw [List.range_succ, List.map_append]; exact ho⟩

/-- When they are made. -/
structure Inv (w0 w : World) (pa pb : Nat) (ca cb : Array Value) (R : Nat → RowD) : Prop where
  bel : Below w0.heap.size w0 w
  rows : ∀ k, k < 2 → (R k).At w
  good : ∀ k, k < 2 → GoodL (R k).L ∧ 1 ≤ (R k).L.length ∧ (R k).L.length ≤ 32
  base : ∀ k, k < 2 → w0.heap.size ≤ (R k).b ∧ w0.heap.size ≤ (R k).b'
  ne : ∀ j k, j < 2 → k < 2 → j ≠ k → (R j).b ≠ (R k).b ∧ (R j).b' ≠ (R k).b'
  as_ : Blk w pa 26 ca
  bs : Blk w pb 30 cb
  cas : ∀ k, k < 2 → ca[k]? = some (ptrS (R k))
  cbs : ∀ k, k < 2 → cb[k]? = some (ptrR (R k))
theorem own_blk {w : World} {base : Nat} {e : TypeId} {v : Value} {f : Nat → Value} (h : w.ownsRow base e 1 v 2 ((List.range 2).map f)) : ∃ p c cur, v = .slice (some ⟨p, 0, none⟩) 2 c ∧ Blk w p e cur ∧ ∀ k, k < 2 → cur[k]? = some (f k) := by
  rcases h.2 with ⟨_, h0⟩ | ⟨p, c, cur, hv, _, hh, _, _, hs, ht⟩
  · omega
  · refine ⟨p, c, cur, hv, hh, fun k hk => ?_⟩
    have e1 : (cur.toList.take (2 * 1))[k]? = cur[k]? := by rw [List.getElem?_take, if_pos (by omega)]; simp
    rw [← e1, ht, List.getElem?_map, List.getElem?_range hk]
    rfl
theorem Inv1.done {w0 w : World} {v v' : Value} {R : Nat → RowD} (h : Inv1 w0 w 2 2 2 v v' R) : ∃ pa c1 ca pb c2 cb, v = .slice (some ⟨pa, 0, none⟩) 2 c1 ∧ v' = .slice (some ⟨pb, 0, none⟩) 2 c2 ∧ Inv w0 w pa pb ca cb R := by
  obtain ⟨pa, c1, ca, e1, h1, k1⟩ := own_blk h.own
  obtain ⟨pb, c2, cb, e2, h2, k2⟩ := own_blk h.own'
  exact ⟨pa, c1, ca, pb, c2, cb, e1, e2, h.bel, h.rows, h.good, h.base, h.ne, h1, h2, k1, k2⟩
theorem Inv.step {w0 w w' : World} {pa pb : Nat} {ca cb : Array Value} {R : Nat → RowD} (h : Inv w0 w pa pb ca cb R) (hb : Below w.heap.size w w') : Inv w0 w' pa pb ca cb R :=
  ⟨h.bel.trans (hb.mono h.bel.size), fun k hk => (h.rows k hk).step hb, h.good, h.base, h.ne, Walk.Blk.step h.as_ hb, Walk.Blk.step h.bs hb, h.cas, h.cbs⟩
theorem Inv.drew {w0 w : World} {pa pb : Nat} {ca cb : Array Value} {R : Nat → RowD} (h : Inv w0 w pa pb ca cb R) : Inv w0 w.drew pa pb ca cb R :=
  ⟨h.bel.drew, fun k hk => (h.rows k hk).drew, h.good, h.base, h.ne, h.as_, h.bs, h.cas, h.cbs⟩
theorem Inv.cellA {w0 w : World} {pa pb : Nat} {ca cb : Array Value} {R : Nat → RowD} (h : Inv w0 w pa pb ca cb R) (k : Nat) (hk : k < 2) : w.cell? ⟨pa, k, none⟩ = some (.pointer (some ⟨(R k).g, 0, none⟩)) := (Walk.Blk.cell h.as_ k).trans (h.cas k hk)
theorem Inv.cellB {w0 w : World} {pa pb : Nat} {ca cb : Array Value} {R : Nat → RowD} (h : Inv w0 w pa pb ca cb R) (k : Nat) (hk : k < 2) : w.cell? ⟨pb, k, none⟩ = some (.pointer (some ⟨(R k).g', 0, none⟩)) := (Walk.Blk.cell h.bs k).trans (h.cbs k hk)
/-- The pair k with other slots. -/
def turnR (R : Nat → RowD) (k : Nat) (L : List SlotD) (j : Nat) : RowD := if j = k then { R j with L := L } else R j
theorem Inv.play {w0 w w' : World} {pa pb : Nat} {ca cb : Array Value} {R : Nat → RowD} (h : Inv w0 w pa pb ca cb R) (k : Nat) (hk : k < 2) {L : List SlotD} (hg : GoodL L) (hl : L.length = (R k).L.length) (hS : Two w' (R k).g (R k).b (R k).g' (R k).b' L L)
    (hb : Kp2 w.heap.size (R k).b (R k).b' w w') : Inv w0 w' pa pb ca cb (turnR R k L) := by
  have S := h.rows k hk
  have go : ∀ j, (turnR R k L j).g = (R j).g ∧ (turnR R k L j).b = (R j).b ∧ (turnR R k L j).g' = (R j).g' ∧ (turnR R k L j).b' = (R j).b' := fun j => by
    unfold turnR; split <;> exact ⟨rfl, rfl, rfl, rfl⟩
  refine ⟨h.bel.trans (hb.below h.bel.size (h.base k hk).1 (h.base k hk).2), fun j hj => ?_, fun j hj => ?_, fun j hj => ?_, fun i j hi hj hij => ?_, ?_, ?_, fun j hj => ?_, fun j hj => ?_⟩
  · by_cases e : j = k
    · subst e
      unfold turnR
      rw [if_pos rfl]
      exact hS
    · unfold turnR
      rw [if_neg e]
      have T := h.rows j hj
      have n := h.ne j k hj hk e
      exact T.kp2 hb n.1 n.2 (Walk.Blk.ne_ T.s.head S.s.body (by decide)) (Walk.Blk.ne_ T.s.head S.r.body (by decide)) (Walk.Blk.ne_ T.s.body S.r.body (by decide)) (Walk.Blk.ne_ T.r.head S.s.body (by decide)) (Walk.Blk.ne_ T.r.head S.r.body (by decide)) (Walk.Blk.ne_ T.r.body S.s.body (by decide))
  · unfold turnR
    split
    · rename_i e
      subst e
      have := h.good j hj
      exact ⟨hg, by show 1 ≤ L.length; omega, by show L.length ≤ 32; omega⟩
    · exact h.good j hj
  · rw [(go j).2.1, (go j).2.2.2]; exact h.base j hj
  · rw [(go i).2.1, (go i).2.2.2, (go j).2.1, (go j).2.2.2]; exact h.ne i j hi hj hij
  · exact Blk.kp2 h.as_ hb (Walk.Blk.ne_ h.as_ S.s.body (by decide)) (Walk.Blk.ne_ h.as_ S.r.body (by decide))
  · exact Blk.kp2 h.bs hb (Walk.Blk.ne_ h.bs S.s.body (by decide)) (Walk.Blk.ne_ h.bs S.r.body (by decide))
  · rw [h.cas j hj]; unfold ptrS; rw [(go j).1]
  · rw [h.cbs j hj]; unfold ptrR; rw [(go j).2.2.1]

/-- A script that came in. -/
def Script (w : World) (A : Option Addr) (len : Nat) (O : Nat → OpD) : Prop := ∀ i, i < len → GoodO (O i) ∧ ∃ a, A = some a ∧ a.block < w.heap.size ∧ ∀ j, j < 8 → w.cell? (a.add (i * 8 + j)) = (opCells (O i))[j]?
theorem Script.step {w w' : World} {A : Option Addr} {len : Nat} {O : Nat → OpD} (h : Script w A len O) (hb : Below w.heap.size w w') : Script w' A len O := fun i hi => by
  obtain ⟨h1, a, ha, hl, hc⟩ := h i hi
  refine ⟨h1, a, ha, Nat.lt_of_lt_of_le hl hb.size, fun j hj => ?_⟩
  have hbk : (a.add (i * 8 + j)).block = a.block := by unfold Addr.add; split <;> rfl
  rw [hb.cell (by rw [hbk]; exact hl)]
  exact hc j hj
theorem infoA : (Tryz.prog.info? 26).map (fun i => (i.zero, i.size, i.bytes)) = some (some (.pointer none), 1, 8) := by kernel_rfl
theorem infoB : (Tryz.prog.info? 30).map (fun i => (i.zero, i.size, i.bytes)) = some (some (.pointer none), 1, 8) := by kernel_rfl
end Go.Proofs.YtopobangjpehnaaGreat.Seal
