/- What holds of the cipher on lists of bits: lengths, there and back, all bits turned, the lowest bits of a key. -/
import Derived.Test.YtopobangjpehnaaDes
set_option autoImplicit false
namespace Go.Proofs.Ytopobangjpehnaa.Des

theorem sel_length (t : List Nat) (l : List Bool) : (sel t l).length = t.length := by simp [sel]
theorem bitsN_length (w n : Nat) : (bitsN w n).length = w := by
  induction w with
  | zero => rfl
  | succ w ih => simp [bitsN, ih]
theorem xo_length (a b : List Bool) : (xo a b).length = min a.length b.length := by simp [xo]
theorem F_length (r k : List Bool) : (F r k).length = 32 := by simp [F, sel_length, tP]
theorem rot_length (n : Nat) (l : List Bool) : (rot n l).length = l.length := by simp [rot]; omega

theorem xo_xo : ∀ (a f : List Bool), a.length ≤ f.length → xo (xo a f) f = a
  | [], _, _ => by simp [xo]
  | x :: a, [], h => by simp at h
  | x :: a, y :: f, h => by
    have ih := xo_xo a f (by simpa using h)
    simp only [xo] at ih
    simp [xo, ih]

theorem rounds_append (ks : List (List Bool)) : ∀ (ks2 : List (List Bool)) (l r : List Bool), rounds (ks ++ ks2) l r = rounds ks2 (rounds ks l r).1 (rounds ks l r).2 := by
  induction ks with
  | nil => intro ks2 l r; rfl
  | cons k ks ih => intro ks2 l r; simp only [List.cons_append, rounds, ih]

theorem rounds_length (ks : List (List Bool)) : ∀ (l r : List Bool), l.length = 32 → r.length = 32 → (rounds ks l r).1.length = 32 ∧ (rounds ks l r).2.length = 32 := by
  induction ks with
  | nil => intro l r hl hr; exact ⟨hl, hr⟩
  | cons k ks ih =>
    intro l r hl hr
    simp only [rounds]
    exact ih _ _ hr (by rw [xo_length, F_length, hl]; rfl)

theorem rounds_back (ks : List (List Bool)) : ∀ (l r : List Bool), l.length = 32 → r.length = 32 →
    rounds ks.reverse (rounds ks l r).2 (rounds ks l r).1 = (r, l) := by
  induction ks with
  | nil => intro l r _ _; rfl
  | cons k ks ih =>
    intro l r hl hr
    have hx : (xo l (F r k)).length = 32 := by rw [xo_length, F_length, hl]; rfl
    have h := ih r (xo l (F r k)) hr hx
    simp only [rounds, List.reverse_cons, rounds_append, h]
    rw [xo_xo _ _ (by rw [F_length, hl]; exact Nat.le_refl _)]

theorem sel_getD (t : List Nat) (l : List Bool) (i : Nat) (h : i < t.length) : (sel t l).getD i false = l.getD (t.getD i 0 - 1) false := by
  simp [sel, List.getD_eq_getElem?_getD, h]

theorem sel_sel (t u : List Nat) (l : List Bool) (ht : ∀ i, i < t.length → t.getD i 0 - 1 < u.length ∧ u.getD (t.getD i 0 - 1) 0 - 1 = i) (hl : l.length = t.length) : sel t (sel u l) = l := by
  apply List.ext_getElem
  · rw [sel_length, hl]
  · intro i h1 h2
    have hi : i < t.length := by rw [sel_length] at h1; exact h1
    have e1 : (sel t (sel u l))[i] = (sel t (sel u l)).getD i false := by rw [List.getD_eq_getElem?_getD, List.getElem?_eq_getElem h1]; rfl
    have e2 : l[i] = l.getD i false := by rw [List.getD_eq_getElem?_getD, List.getElem?_eq_getElem h2]; rfl
    rw [e1, e2, sel_getD _ _ _ hi, sel_getD _ _ _ (ht i hi).1, (ht i hi).2]

theorem in_out (l : List Bool) (h : l.length = 64) : sel tIn (sel tOut l) = l := sel_sel _ _ _ (by decide) h
theorem out_in (l : List Bool) (h : l.length = 64) : sel tOut (sel tIn l) = l := sel_sel _ _ _ (by decide) h

theorem des_length (ks : List (List Bool)) (x : List Bool) : (des ks x).length = 64 := by simp [des, sel_length, tOut]

/-- There and back. -/
theorem des_back (ks : List (List Bool)) (x : List Bool) (hx : x.length = 64) : des ks.reverse (des ks x) = x := by
  have hy : (sel tIn x).length = 64 := by rw [sel_length]; rfl
  have h := rounds_length ks ((sel tIn x).take 32) ((sel tIn x).drop 32) (by simp [hy]) (by simp [hy])
  have hb := rounds_back ks ((sel tIn x).take 32) ((sel tIn x).drop 32) (by simp [hy]) (by simp [hy])
  simp only [des]
  rw [in_out _ (by simp [h.1, h.2])]
  rw [List.take_left' h.2, List.drop_left' h.2, hb]
  simp only [List.take_append_drop]
  exact out_in x hx

/-! ### All bits turned -/
def cm (l : List Bool) : List Bool := l.map (!·)
theorem cm_length (l : List Bool) : (cm l).length = l.length := by simp [cm]
theorem cm_getD (l : List Bool) (i : Nat) (h : i < l.length) : (cm l).getD i false = !(l.getD i false) := by simp [cm, List.getD_eq_getElem?_getD, h]
theorem sel_cm (t : List Nat) (l : List Bool) (h : ∀ k ∈ t, k - 1 < l.length) : sel t (cm l) = cm (sel t l) := by
  simp only [sel, cm, List.map_map]
  apply List.map_congr_left
  intro k hk
  exact cm_getD l _ (h k hk)
theorem xo_cm_cm (a b : List Bool) : xo (cm a) (cm b) = xo a b := by
  simp only [xo, cm, List.zipWith_map]
  congr 1; funext x y; cases x <;> cases y <;> rfl
theorem xo_cm (a b : List Bool) : xo (cm a) b = cm (xo a b) := by
  simp only [xo, cm, List.zipWith_map_left, List.map_zipWith]
  congr 1; funext x y; cases x <;> cases y <;> rfl
theorem F_cm (r k : List Bool) (hr : r.length = 32) : F (cm r) (cm k) = F r k := by
  unfold F
  rw [sel_cm _ _ (by rw [hr]; decide), xo_cm_cm]
theorem rounds_cm (ks : List (List Bool)) : ∀ (l r : List Bool), l.length = 32 → r.length = 32 →
    rounds (ks.map cm) (cm l) (cm r) = (cm (rounds ks l r).1, cm (rounds ks l r).2) := by
  induction ks with
  | nil => intro l r _ _; rfl
  | cons k ks ih =>
    intro l r hl hr
    simp only [List.map_cons, rounds]
    rw [F_cm r k hr, xo_cm, ih _ _ hr (by rw [xo_length, F_length, hl]; rfl)]
theorem cm_append (a b : List Bool) : cm (a ++ b) = cm a ++ cm b := by simp [cm]
theorem cm_take (n : Nat) (l : List Bool) : (cm l).take n = cm (l.take n) := by simp [cm]
theorem cm_drop (n : Nat) (l : List Bool) : (cm l).drop n = cm (l.drop n) := by simp [cm]
theorem des_cm (ks : List (List Bool)) (x : List Bool) (hx : x.length = 64) : des (ks.map cm) (cm x) = cm (des ks x) := by
  have hy : (sel tIn x).length = 64 := by rw [sel_length]; rfl
  have h := rounds_length ks ((sel tIn x).take 32) ((sel tIn x).drop 32) (by simp [hy]) (by simp [hy])
  simp only [des]
  rw [sel_cm tIn x (by rw [hx]; decide), cm_take, cm_drop, rounds_cm _ _ _ (by simp [hy]) (by simp [hy])]
  simp only [← cm_append]
  rw [sel_cm _ _ (by rw [List.length_append, h.1, h.2]; decide)]
theorem rot_cm (n : Nat) (l : List Bool) : rot n (cm l) = cm (rot n l) := by simp [rot, cm]
theorem sched0_cm (ns : List Nat) : ∀ (c d : List Bool), c.length = 28 → d.length = 28 → sched0 ns (cm c) (cm d) = (sched0 ns c d).map cm := by
  induction ns with
  | nil => intro c d _ _; rfl
  | cons n ns ih =>
    intro c d hc hd
    simp only [sched0, rot_cm, List.map_cons]
    rw [ih _ _ (by rw [rot_length, hc]) (by rw [rot_length, hd]), ← cm_append, sel_cm _ _ (by rw [List.length_append, rot_length, rot_length, hc, hd]; decide)]
theorem sched_cm (key : List Bool) (h : key.length = 64) : sched (cm key) = (sched key).map cm := by
  have hy : (sel tK1 key).length = 56 := by rw [sel_length]; rfl
  unfold sched
  rw [sel_cm _ _ (by rw [h]; decide), cm_take, cm_drop, sched0_cm _ _ _ (by simp [hy]) (by simp [hy])]
theorem sched0_length (ns : List Nat) : ∀ (c d : List Bool), (sched0 ns c d).length = ns.length := by
  induction ns with
  | nil => intro c d; rfl
  | cons n ns ih => intro c d; simp [sched0, ih]
theorem sched_length (key : List Bool) : (sched key).length = 16 := by unfold sched; rw [sched0_length]; rfl
theorem sched0_each (ns : List Nat) : ∀ (c d : List Bool), ∀ k ∈ sched0 ns c d, k.length = 48 := by
  induction ns with
  | nil => intro c d k hk; cases hk
  | cons n ns ih =>
    intro c d k hk
    simp only [sched0, List.mem_cons] at hk
    rcases hk with rfl | hk
    · rw [sel_length]; rfl
    · exact ih _ _ k hk
theorem sched_each (key : List Bool) : ∀ k ∈ sched key, k.length = 48 := sched0_each _ _ _

/-! ### The lowest bits of a key's bytes -/
theorem sel_congr (t : List Nat) (a b : List Bool) (h : ∀ k ∈ t, a.getD (k - 1) false = b.getD (k - 1) false) : sel t a = sel t b := by
  simp only [sel]; exact List.map_congr_left h
theorem sched_congr (a b : List Bool) (h : ∀ i, i < 64 → i % 8 ≠ 7 → a.getD i false = b.getD i false) : sched a = sched b := by
  have e : sel tK1 a = sel tK1 b := sel_congr _ _ _ (fun k hk => h (k - 1) (by revert k; decide) (by revert k; decide))
  unfold sched; rw [e]

/-! ### Numbers and bits -/
theorem num_go (l : List Bool) : ∀ a, l.foldl (fun a b => 2 * a + b.toNat) a = a * 2 ^ l.length + num l := by
  induction l with
  | nil => intro a; simp [num]
  | cons b l ih =>
    intro a
    simp only [num, List.foldl_cons, List.length_cons]
    rw [ih, ih (2 * 0 + b.toNat), Nat.pow_succ]
    simp only [Nat.mul_zero, Nat.zero_add, Nat.add_mul]
    rw [Nat.mul_comm 2 a, Nat.mul_assoc, Nat.mul_comm 2]
    omega
theorem num_cons (b : Bool) (l : List Bool) : num (b :: l) = b.toNat * 2 ^ l.length + num l := by
  have := num_go l (2 * 0 + b.toNat)
  simpa [num] using this
theorem num_append (a b : List Bool) : num (a ++ b) = num a * 2 ^ b.length + num b := by
  have := num_go b (num a)
  simpa [num, List.foldl_append] using this
theorem num_lt (l : List Bool) : num l < 2 ^ l.length := by
  induction l with
  | nil => simp [num]
  | cons b l ih =>
    rw [num_cons, List.length_cons, Nat.pow_succ]
    cases b <;> simp <;> omega
theorem bitsN_num (l : List Bool) : bitsN l.length (num l) = l := by
  induction l with
  | nil => rfl
  | cons b l ih =>
    have hl := num_lt l
    simp only [List.length_cons, bitsN]
    have e : ∀ w n c : Nat, w ≤ c → bitsN w (n) = bitsN w (n % 2 ^ c) := by
      intro w
      induction w with
      | zero => intros; rfl
      | succ w ihw =>
        intro n c hc
        simp only [bitsN]
        rw [← ihw n c (by omega), Nat.testBit_mod_two_pow]
        simp [show w < c by omega]
    congr 1
    · rw [num_cons]
      rw [Nat.testBit_eq_decide_div_mod_eq]
      have : (b.toNat * 2 ^ l.length + num l) / 2 ^ l.length = b.toNat := by
        rw [Nat.mul_comm, Nat.mul_add_div (Nat.two_pow_pos _), Nat.div_eq_of_lt hl, Nat.add_zero]
      rw [this]; cases b <;> rfl
    · rw [e l.length _ l.length (Nat.le_refl _), num_cons]
      rw [show (b.toNat * 2 ^ l.length + num l) % 2 ^ l.length = num l by rw [Nat.mul_comm, Nat.mul_add_mod, Nat.mod_eq_of_lt hl]]
      exact ih
theorem num_bitsN (w : Nat) : ∀ n, num (bitsN w n) = n % 2 ^ w := by
  induction w with
  | zero => intro n; simp [bitsN, num, Nat.mod_one]
  | succ w ih =>
    intro n
    simp only [bitsN]
    rw [num_cons, ih, bitsN_length, Nat.testBit_eq_decide_div_mod_eq, Nat.pow_succ, Nat.mod_mul]
    have := Nat.mod_two_eq_zero_or_one (n / 2 ^ w)
    rcases this with h | h <;> simp [h] <;> omega
theorem bitsN_getD (w n i : Nat) (h : i < w) : (bitsN w n).getD i false = n.testBit (w - 1 - i) := by
  induction w generalizing i with
  | zero => omega
  | succ w ih =>
    cases i with
    | zero => simp [bitsN]
    | succ i =>
      simp only [bitsN]
      have := ih i (by omega)
      simp only [List.getD_cons_succ, this]
      congr 1; omega
end Go.Proofs.Ytopobangjpehnaa.Des
