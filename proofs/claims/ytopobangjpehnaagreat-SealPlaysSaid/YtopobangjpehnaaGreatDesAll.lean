/- The cipher on lists of bits, and its laws. -/

set_option autoImplicit false
namespace Go.Proofs.YtopobangjpehnaaGreat.Des

def tIn : List Nat := [58, 50, 42, 34, 26, 18, 10, 2, 60, 52, 44, 36, 28, 20, 12, 4, 62, 54, 46, 38, 30, 22, 14, 6, 64, 56, 48, 40, 32, 24, 16, 8, 57, 49, 41, 33, 25, 17, 9, 1, 59, 51, 43, 35, 27, 19, 11, 3, 61, 53, 45, 37, 29, 21, 13, 5, 63, 55, 47, 39, 31, 23, 15, 7]
def tOut : List Nat := [40, 8, 48, 16, 56, 24, 64, 32, 39, 7, 47, 15, 55, 23, 63, 31, 38, 6, 46, 14, 54, 22, 62, 30, 37, 5, 45, 13, 53, 21, 61, 29, 36, 4, 44, 12, 52, 20, 60, 28, 35, 3, 43, 11, 51, 19, 59, 27, 34, 2, 42, 10, 50, 18, 58, 26, 33, 1, 41, 9, 49, 17, 57, 25]
def tWide : List Nat := [32, 1, 2, 3, 4, 5, 4, 5, 6, 7, 8, 9, 8, 9, 10, 11, 12, 13, 12, 13, 14, 15, 16, 17, 16, 17, 18, 19, 20, 21, 20, 21, 22, 23, 24, 25, 24, 25, 26, 27, 28, 29, 28, 29, 30, 31, 32, 1]
def tP : List Nat := [16, 7, 20, 21, 29, 12, 28, 17, 1, 15, 23, 26, 5, 18, 31, 10, 2, 8, 24, 14, 32, 27, 3, 9, 19, 13, 30, 6, 22, 11, 4, 25]
def tK1 : List Nat := [57, 49, 41, 33, 25, 17, 9, 1, 58, 50, 42, 34, 26, 18, 10, 2, 59, 51, 43, 35, 27, 19, 11, 3, 60, 52, 44, 36, 63, 55, 47, 39, 31, 23, 15, 7, 62, 54, 46, 38, 30, 22, 14, 6, 61, 53, 45, 37, 29, 21, 13, 5, 28, 20, 12, 4]
def tK2 : List Nat := [14, 17, 11, 24, 1, 5, 3, 28, 15, 6, 21, 10, 23, 19, 12, 4, 26, 8, 16, 7, 27, 20, 13, 2, 41, 52, 31, 37, 47, 55, 30, 40, 51, 45, 33, 48, 44, 49, 39, 56, 34, 53, 46, 42, 50, 36, 29, 32]
def box : Nat → List Nat
  | 0 => [14, 4, 13, 1, 2, 15, 11, 8, 3, 10, 6, 12, 5, 9, 0, 7, 0, 15, 7, 4, 14, 2, 13, 1, 10, 6, 12, 11, 9, 5, 3, 8, 4, 1, 14, 8, 13, 6, 2, 11, 15, 12, 9, 7, 3, 10, 5, 0, 15, 12, 8, 2, 4, 9, 1, 7, 5, 11, 3, 14, 10, 0, 6, 13]
  | 1 => [15, 1, 8, 14, 6, 11, 3, 4, 9, 7, 2, 13, 12, 0, 5, 10, 3, 13, 4, 7, 15, 2, 8, 14, 12, 0, 1, 10, 6, 9, 11, 5, 0, 14, 7, 11, 10, 4, 13, 1, 5, 8, 12, 6, 9, 3, 2, 15, 13, 8, 10, 1, 3, 15, 4, 2, 11, 6, 7, 12, 0, 5, 14, 9]
  | 2 => [10, 0, 9, 14, 6, 3, 15, 5, 1, 13, 12, 7, 11, 4, 2, 8, 13, 7, 0, 9, 3, 4, 6, 10, 2, 8, 5, 14, 12, 11, 15, 1, 13, 6, 4, 9, 8, 15, 3, 0, 11, 1, 2, 12, 5, 10, 14, 7, 1, 10, 13, 0, 6, 9, 8, 7, 4, 15, 14, 3, 11, 5, 2, 12]
  | 3 => [7, 13, 14, 3, 0, 6, 9, 10, 1, 2, 8, 5, 11, 12, 4, 15, 13, 8, 11, 5, 6, 15, 0, 3, 4, 7, 2, 12, 1, 10, 14, 9, 10, 6, 9, 0, 12, 11, 7, 13, 15, 1, 3, 14, 5, 2, 8, 4, 3, 15, 0, 6, 10, 1, 13, 8, 9, 4, 5, 11, 12, 7, 2, 14]
  | 4 => [2, 12, 4, 1, 7, 10, 11, 6, 8, 5, 3, 15, 13, 0, 14, 9, 14, 11, 2, 12, 4, 7, 13, 1, 5, 0, 15, 10, 3, 9, 8, 6, 4, 2, 1, 11, 10, 13, 7, 8, 15, 9, 12, 5, 6, 3, 0, 14, 11, 8, 12, 7, 1, 14, 2, 13, 6, 15, 0, 9, 10, 4, 5, 3]
  | 5 => [12, 1, 10, 15, 9, 2, 6, 8, 0, 13, 3, 4, 14, 7, 5, 11, 10, 15, 4, 2, 7, 12, 9, 5, 6, 1, 13, 14, 0, 11, 3, 8, 9, 14, 15, 5, 2, 8, 12, 3, 7, 0, 4, 10, 1, 13, 11, 6, 4, 3, 2, 12, 9, 5, 15, 10, 11, 14, 1, 7, 6, 0, 8, 13]
  | 6 => [4, 11, 2, 14, 15, 0, 8, 13, 3, 12, 9, 7, 5, 10, 6, 1, 13, 0, 11, 7, 4, 9, 1, 10, 14, 3, 5, 12, 2, 15, 8, 6, 1, 4, 11, 13, 12, 3, 7, 14, 10, 15, 6, 8, 0, 5, 9, 2, 6, 11, 13, 8, 1, 4, 10, 7, 9, 5, 0, 15, 14, 2, 3, 12]
  | _ => [13, 2, 8, 4, 6, 15, 11, 1, 10, 9, 3, 14, 5, 0, 12, 7, 1, 15, 13, 8, 10, 3, 7, 4, 12, 5, 6, 11, 0, 14, 9, 2, 7, 11, 4, 1, 9, 12, 14, 2, 0, 6, 10, 13, 15, 3, 5, 8, 2, 1, 14, 7, 4, 10, 8, 13, 15, 12, 9, 0, 3, 5, 6, 11]

/-- The number that bits make, the highest first. -/
def num (l : List Bool) : Nat := l.foldl (fun a b => 2 * a + b.toNat) 0
/-- The lowest w bits of a number, the highest first. -/
def bitsN : Nat → Nat → List Bool
  | 0, _ => []
  | w + 1, n => n.testBit w :: bitsN w n
/-- What a table takes. -/
def sel (t : List Nat) (l : List Bool) : List Bool := t.map fun k => l.getD (k - 1) false
def xo (a b : List Bool) : List Bool := List.zipWith xor a b
def rot (n : Nat) (l : List Bool) : List Bool := l.drop n ++ l.take n
/-- The place in a box that six bits name. -/
def place (g : List Bool) : Nat := 16 * num [g.getD 0 false, g.getD 5 false] + num [g.getD 1 false, g.getD 2 false, g.getD 3 false, g.getD 4 false]
def sbits (i : Nat) (g : List Bool) : List Bool := bitsN 4 ((box i).getD (place g) 0)
def fboxFrom : Nat → Nat → List Bool → List Bool
  | 0, _, _ => []
  | m + 1, i, x => sbits i (x.take 6) ++ fboxFrom m (i + 1) (x.drop 6)
def F (r k : List Bool) : List Bool := sel tP (fboxFrom 8 0 (xo (sel tWide r) k))
def rounds : List (List Bool) → List Bool → List Bool → List Bool × List Bool
  | [], l, r => (l, r)
  | k :: ks, l, r => rounds ks r (xo l (F r k))
def des (ks : List (List Bool)) (x : List Bool) : List Bool :=
  let y := sel tIn x
  let p := rounds ks (y.take 32) (y.drop 32)
  sel tOut (p.2 ++ p.1)
def shifts : List Nat := [1, 1, 2, 2, 2, 2, 2, 2, 1, 2, 2, 2, 2, 2, 2, 1]
def sched0 : List Nat → List Bool → List Bool → List (List Bool)
  | [], _, _ => []
  | n :: ns, c, d => sel tK2 (rot n c ++ rot n d) :: sched0 ns (rot n c) (rot n d)
def sched (key : List Bool) : List (List Bool) := sched0 shifts ((sel tK1 key).take 28) ((sel tK1 key).drop 28)

theorem ex1 : num (des (sched (bitsN 64 0x133457799bbcdff1)) (bitsN 64 0x0123456789abcdef)) = 0x85e813540f0ab405 := by decide +kernel
theorem ex0 : num (des (sched (bitsN 64 0)) (bitsN 64 0)) / 2^40 = 0x8ca64d := by decide +kernel
end Go.Proofs.YtopobangjpehnaaGreat.Des

set_option autoImplicit false
namespace Go.Proofs.YtopobangjpehnaaGreat.Des

theorem sel_length (t : List Nat) (l : List Bool) : (sel t l).length = t.length := by simp [sel]
theorem bitsN_length (w n : Nat) : (bitsN w n).length = w := by
  induction w with
  | zero => rfl
  | succ w ih => simp [bitsN, ih]
theorem xo_length (a b : List Bool) : (xo a b).length = min a.length b.length := by simp [xo]
theorem F_length (r k : List Bool) : (F r k).length = 32 := by simp [F, sel_length, tP]
theorem rot_length (n : Nat) (l : List Bool) : (rot n l).length = l.length := by simp [rot]; omega

theorem xo_xo : ∀ (a f : List Bool), a.length ≤ f.length → xo (xo a f) f = a
  | [], _, _ => by simp [xo]
  | x :: a, [], h => by simp at h
  | x :: a, y :: f, h => by
    have ih := xo_xo a f (by simpa using h)
    simp only [xo] at ih
    simp [xo, ih]

theorem rounds_append (ks : List (List Bool)) : ∀ (ks2 : List (List Bool)) (l r : List Bool), rounds (ks ++ ks2) l r = rounds ks2 (rounds ks l r).1 (rounds ks l r).2 := by
  induction ks with
  | nil => intro ks2 l r; rfl
  | cons k ks ih => intro ks2 l r; simp only [List.cons_append, rounds, ih]

theorem rounds_length (ks : List (List Bool)) : ∀ (l r : List Bool), l.length = 32 → r.length = 32 → (rounds ks l r).1.length = 32 ∧ (rounds ks l r).2.length = 32 := by
  induction ks with
  | nil => intro l r hl hr; exact ⟨hl, hr⟩
  | cons k ks ih =>
    intro l r hl hr
    simp only [rounds]
    exact ih _ _ hr (by rw [xo_length, F_length, hl]; rfl)

theorem rounds_back (ks : List (List Bool)) : ∀ (l r : List Bool), l.length = 32 → r.length = 32 →
    rounds ks.reverse (rounds ks l r).2 (rounds ks l r).1 = (r, l) := by
  induction ks with
  | nil => intro l r _ _; rfl
  | cons k ks ih =>
    intro l r hl hr
    have hx : (xo l (F r k)).length = 32 := by rw [xo_length, F_length, hl]; rfl
    have h := ih r (xo l (F r k)) hr hx
    simp only [rounds, List.reverse_cons, rounds_append, h]
    rw [xo_xo _ _ (by rw [F_length, hl]; exact Nat.le_refl _)]

theorem sel_getD (t : List Nat) (l : List Bool) (i : Nat) (h : i < t.length) : (sel t l).getD i false = l.getD (t.getD i 0 - 1) false := by
  simp [sel, List.getD_eq_getElem?_getD, h]

theorem sel_sel (t u : List Nat) (l : List Bool) (ht : ∀ i, i < t.length → t.getD i 0 - 1 < u.length ∧ u.getD (t.getD i 0 - 1) 0 - 1 = i) (hl : l.length = t.length) : sel t (sel u l) = l := by
  apply List.ext_getElem
  · rw [sel_length, hl]
  · intro i h1 h2
    have hi : i < t.length := by rw [sel_length] at h1; exact h1
    have e1 : (sel t (sel u l))[i] = (sel t (sel u l)).getD i false := by rw [List.getD_eq_getElem?_getD, List.getElem?_eq_getElem h1]; rfl
    have e2 : l[i] = l.getD i false := by rw [List.getD_eq_getElem?_getD, List.getElem?_eq_getElem h2]; rfl
    rw [e1, e2, sel_getD _ _ _ hi, sel_getD _ _ _ (ht i hi).1, (ht i hi).2]

theorem in_out (l : List Bool) (h : l.length = 64) : sel tIn (sel tOut l) = l := sel_sel _ _ _ (by decide) h
theorem out_in (l : List Bool) (h : l.length = 64) : sel tOut (sel tIn l) = l := sel_sel _ _ _ (by decide) h

theorem des_length (ks : List (List Bool)) (x : List Bool) : (des ks x).length = 64 := by simp [des, sel_length, tOut]

/-- There and back. -/
theorem des_back (ks : List (List Bool)) (x : List Bool) (hx : x.length = 64) : des ks.reverse (des ks x) = x := by
  have hy : (sel tIn x).length = 64 := by rw [sel_length]; rfl
  have h := rounds_length ks ((sel tIn x).take 32) ((sel tIn x).drop 32) (by simp [hy]) (by simp [hy])
  have hb := rounds_back ks ((sel tIn x).take 32) ((sel tIn x).drop 32) (by simp [hy]) (by simp [hy])
  simp only [des]
  rw [in_out _ (by simp [h.1, h.2])]
  rw [List.take_left' h.2, List.drop_left' h.2, hb]
  simp only [List.take_append_drop]
  exact out_in x hx

/-! ### All bits turned -/
def cm (l : List Bool) : List Bool := l.map (!·)
theorem cm_length (l : List Bool) : (cm l).length = l.length := by simp [cm]
theorem cm_getD (l : List Bool) (i : Nat) (h : i < l.length) : (cm l).getD i false = !(l.getD i false) := by simp [cm, List.getD_eq_getElem?_getD, h]
theorem sel_cm (t : List Nat) (l : List Bool) (h : ∀ k ∈ t, k - 1 < l.length) : sel t (cm l) = cm (sel t l) := by
  simp only [sel, cm, List.map_map]
  apply List.map_congr_left
  intro k hk
  exact cm_getD l _ (h k hk)
theorem xo_cm_cm (a b : List Bool) : xo (cm a) (cm b) = xo a b := by
  simp only [xo, cm, List.zipWith_map]
  congr 1; funext x y; cases x <;> cases y <;> rfl
theorem xo_cm (a b : List Bool) : xo (cm a) b = cm (xo a b) := by
  simp only [xo, cm, List.zipWith_map_left, List.map_zipWith]
  congr 1; funext x y; cases x <;> cases y <;> rfl
theorem F_cm (r k : List Bool) (hr : r.length = 32) : F (cm r) (cm k) = F r k := by
  unfold F
  rw [sel_cm _ _ (by rw [hr]; decide), xo_cm_cm]
theorem rounds_cm (ks : List (List Bool)) : ∀ (l r : List Bool), l.length = 32 → r.length = 32 →
    rounds (ks.map cm) (cm l) (cm r) = (cm (rounds ks l r).1, cm (rounds ks l r).2) := by
  induction ks with
  | nil => intro l r _ _; rfl
  | cons k ks ih =>
    intro l r hl hr
    simp only [List.map_cons, rounds]
    rw [F_cm r k hr, xo_cm, ih _ _ hr (by rw [xo_length, F_length, hl]; rfl)]
theorem cm_append (a b : List Bool) : cm (a ++ b) = cm a ++ cm b := by simp [cm]
theorem cm_take (n : Nat) (l : List Bool) : (cm l).take n = cm (l.take n) := by simp [cm]
theorem cm_drop (n : Nat) (l : List Bool) : (cm l).drop n = cm (l.drop n) := by simp [cm]
theorem des_cm (ks : List (List Bool)) (x : List Bool) (hx : x.length = 64) : des (ks.map cm) (cm x) = cm (des ks x) := by
  have hy : (sel tIn x).length = 64 := by rw [sel_length]; rfl
  have h := rounds_length ks ((sel tIn x).take 32) ((sel tIn x).drop 32) (by simp [hy]) (by simp [hy])
  simp only [des]
  rw [sel_cm tIn x (by rw [hx]; decide), cm_take, cm_drop, rounds_cm _ _ _ (by simp [hy]) (by simp [hy])]
  simp only [← cm_append]
  rw [sel_cm _ _ (by rw [List.length_append, h.1, h.2]; decide)]
theorem rot_cm (n : Nat) (l : List Bool) : rot n (cm l) = cm (rot n l) := by simp [rot, cm]
theorem sched0_cm (ns : List Nat) : ∀ (c d : List Bool), c.length = 28 → d.length = 28 → sched0 ns (cm c) (cm d) = (sched0 ns c d).map cm := by
  induction ns with
  | nil => intro c d _ _; rfl
  | cons n ns ih =>
    intro c d hc hd
    simp only [sched0, rot_cm, List.map_cons]
    rw [ih _ _ (by rw [rot_length, hc]) (by rw [rot_length, hd]), ← cm_append, sel_cm _ _ (by rw [List.length_append, rot_length, rot_length, hc, hd]; decide)]
theorem sched_cm (key : List Bool) (h : key.length = 64) : sched (cm key) = (sched key).map cm := by
  have hy : (sel tK1 key).length = 56 := by rw [sel_length]; rfl
  unfold sched
  rw [sel_cm _ _ (by rw [h]; decide), cm_take, cm_drop, sched0_cm _ _ _ (by simp [hy]) (by simp [hy])]
theorem sched0_length (ns : List Nat) : ∀ (c d : List Bool), (sched0 ns c d).length = ns.length := by
  induction ns with
  | nil => intro c d; rfl
  | cons n ns ih => intro c d; simp [sched0, ih]
theorem sched_length (key : List Bool) : (sched key).length = 16 := by unfold sched; rw [sched0_length]; rfl
theorem sched0_each (ns : List Nat) : ∀ (c d : List Bool), ∀ k ∈ sched0 ns c d, k.length = 48 := by
  induction ns with
  | nil => intro c d k hk; cases hk
  | cons n ns ih =>
    intro c d k hk
    simp only [sched0, List.mem_cons] at hk
    rcases hk with rfl | hk
    · rw [sel_length]; rfl
    · exact ih _ _ k hk
theorem sched_each (key : List Bool) : ∀ k ∈ sched key, k.length = 48 := sched0_each _ _ _

/-! ### The lowest bits of a key's bytes -/
theorem sel_congr (t : List Nat) (a b : List Bool) (h : ∀ k ∈ t, a.getD (k - 1) false = b.getD (k - 1) false) : sel t a = sel t b := by
  simp only [sel]; exact List.map_congr_left h
theorem sched_congr (a b : List Bool) (h : ∀ i, i < 64 → i % 8 ≠ 7 → a.getD i false = b.getD i false) : sched a = sched b := by
  have e : sel tK1 a = sel tK1 b := sel_congr _ _ _ (fun k hk => h (k - 1) (by revert k; decide) (by revert k; decide))
  unfold sched; rw [e]

/-! ### Numbers and bits -/
theorem num_go (l : List Bool) : ∀ a, l.foldl (fun a b => 2 * a + b.toNat) a = a * 2 ^ l.length + num l := by
  induction l with
  | nil => intro a; simp [num]
  | cons b l ih =>
    intro a
    simp only [num, List.foldl_cons, List.length_cons]
    rw [ih, ih (2 * 0 + b.toNat), Nat.pow_succ]
    simp only [Nat.mul_zero, Nat.zero_add, Nat.add_mul]
    rw [Nat.mul_comm 2 a, Nat.mul_assoc, Nat.mul_comm 2]
    omega
theorem num_cons (b : Bool) (l : List Bool) : num (b :: l) = b.toNat * 2 ^ l.length + num l := by
  have := num_go l (2 * 0 + b.toNat)
  simpa [num] using this
theorem num_append (a b : List Bool) : num (a ++ b) = num a * 2 ^ b.length + num b := by
  have := num_go b (num a)
  simpa [num, List.foldl_append] using this
theorem num_lt (l : List Bool) : num l < 2 ^ l.length := by
  induction l with
  | nil => simp [num]
  | cons b l ih =>
    rw [num_cons, List.length_cons, Nat.pow_succ]
    cases b <;> simp <;> omega
theorem bitsN_num (l : List Bool) : bitsN l.length (num l) = l := by
  induction l with
  | nil => rfl
  | cons b l ih =>
    have hl := num_lt l
    simp only [List.length_cons, bitsN]
    have e : ∀ w n c : Nat, w ≤ c → bitsN w (n) = bitsN w (n % 2 ^ c) := by
      intro w
      induction w with
      | zero => intros; rfl
      | succ w ihw =>
        intro n c hc
        simp only [bitsN]
        rw [← ihw n c (by omega), Nat.testBit_mod_two_pow]
        simp [show w < c by omega]
    congr 1
    · rw [num_cons]
      rw [Nat.testBit_eq_decide_div_mod_eq]
      have : (b.toNat * 2 ^ l.length + num l) / 2 ^ l.length = b.toNat := by
        rw [Nat.mul_comm, Nat.mul_add_div (Nat.two_pow_pos _), Nat.div_eq_of_lt hl, Nat.add_zero]
      rw [this]; cases b <;> rfl
    · rw [e l.length _ l.length (Nat.le_refl _), num_cons]
      rw [show (b.toNat * 2 ^ l.length + num l) % 2 ^ l.length = num l by rw [Nat.mul_comm, Nat.mul_add_mod, Nat.mod_eq_of_lt hl]]
      exact ih
theorem num_bitsN (w : Nat) : ∀ n, num (bitsN w n) = n % 2 ^ w := by
  induction w with
  | zero => intro n; simp [bitsN, num, Nat.mod_one]
  | succ w ih =>
    intro n
    simp only [bitsN]
    rw [num_cons, ih, bitsN_length, Nat.testBit_eq_decide_div_mod_eq, Nat.pow_succ, Nat.mod_mul]
    have := Nat.mod_two_eq_zero_or_one (n / 2 ^ w)
    rcases this with h | h <;> simp [h] <;> omega
theorem bitsN_getD (w n i : Nat) (h : i < w) : (bitsN w n).getD i false = n.testBit (w - 1 - i) := by
  induction w generalizing i with
  | zero => omega
  | succ w ih =>
    cases i with
    | zero => simp [bitsN]
    | succ i =>
      simp only [bitsN]
      have := ih i (by omega)
      simp only [List.getD_cons_succ, this]
      congr 1; omega
end Go.Proofs.YtopobangjpehnaaGreat.Des
