/- The walk of the law CipherBack. -/
import Derived.Test.YtopobangjpehnaaPlainB
import Derived.Test.YtopobangjpehnaaTurned
set_option linter.unusedVariables false
set_option linter.unusedSimpArgs false
namespace Go.Proofs.Ytopobangjpehnaa.Walk
open Go.RowKit Go.Proofs.YtopobangjpehnaaW.PrintWords Go.Proofs.YtopobangjpehnaaW.PrintLast Go.Proofs.YtopobangjpehnaaW.PrintMore Pr Des Num

set_option maxHeartbeats 4000000 in
set_option maxRecDepth 100000 in
theorem back_law (raw : ByteArray) (hr : raw.size ≤ 140737488351232) (parts : Int) (hp : (Lit.int .i64 parts).wf = true) (first : ByteArray) (hfi : first.size ≤ 140737488351232) (s : ByteArray) (hs : s.size ≤ 140737488351232) (w : World) :
    Calls Try.prog 13 #[.string raw, .int .i64 parts, .string first, .string s] w fun e w' => e = .returned (.bool true) ∧ Below w.heap.size w w' := by
  obtain ⟨p, hp3, HP⟩ := pick_any parts 3 (wf_i64 hp) (by decide) (by decide)
  obtain ⟨key, hkey, HF⟩ := fit_any raw (8 + 8 * (p : Int)) (by omega) (by omega) (by omega)
  obtain ⟨f, hf8, HG⟩ := fit_any first 8 (by omega) (by omega) (by omega)
  obtain ⟨t, ht, hts, HW⟩ := whole_any s 60 (by decide) (by omega)
  have hk : key.size = 8 ∨ key.size = 16 ∨ key.size = 24 := by omega
  have hf : f.size = 8 := by omega
  have hN := new_yes key (kind_of_size hk).1
  have zx := blocksStr_size (ecbB key.data.toList false t) t ht
  have zz := blocksStr_size (ecbB key.data.toList true t) t ht
  have zc := blocksStr_size (cbcB key.data.toList (bitsB f.data.toList) t) t ht
  have zg := blocksStr_size (uncB key.data.toList (bitsB f.data.toList) t) t ht
  have e1 := fun g (W : World) hg => encrypt_yes g key.data.toList t ht (by omega) W hg
  have e2 := fun g (W : World) hg => decrypt_yes g key.data.toList (blocksStr (ecbB key.data.toList false t) t) (by rw [zx]; exact ht) (by rw [zx]; omega) W hg
  have e3 := fun g (W : World) hg => decrypt_yes g key.data.toList t ht (by omega) W hg
  have e4 := fun g (W : World) hg => encrypt_yes g key.data.toList (blocksStr (ecbB key.data.toList true t) t) (by rw [zz]; exact ht) (by rw [zz]; omega) W hg
  have e5 := fun g (W : World) hg => chain_yes g key.data.toList f t hf ht (by omega) W hg
  have e6 := fun g (W : World) hg => unchain_yes g key.data.toList f (blocksStr (cbcB key.data.toList (bitsB f.data.toList) t) t) hf (by rw [zc]; exact ht) (by rw [zc]; omega) W hg
  have e7 := fun g (W : World) hg => unchain_yes g key.data.toList f t hf ht (by omega) W hg
  have e8 := fun g (W : World) hg => chain_yes g key.data.toList f (blocksStr (uncB key.data.toList (bitsB f.data.toList) t) t) hf (by rw [zg]; exact ht) (by rw [zg]; omega) W hg
  rw [ecb_back1 _ _ ht] at e2
  rw [ecb_back2 _ _ ht] at e4
  rw [chain_back _ _ (first_len f hf) _ ht] at e6
  rw [unchain_back _ _ (first_len f hf) _ ht] at e8
  generalize blocksStr (ecbB key.data.toList false t) t = x at *
  generalize blocksStr (ecbB key.data.toList true t) t = z at *
  generalize blocksStr (cbcB key.data.toList (bitsB f.data.toList) t) t = c at *
  generalize blocksStr (uncB key.data.toList (bitsB f.data.toList) t) t = g0 at *
  have h0 : 0 ≤ (p : Int) := by omega
  have HN := Aside0.mk hN
  have HP' := Aside0.mk HP
  have HF' := Aside0.mk HF
  have HG' := Aside0.mk HG
  have HW' := Aside0.mk HW
  have E1 := Aside0.mk e1
  have E2 := Aside0.mk e2
  have E3 := Aside0.mk e3
  have E4 := Aside0.mk e4
  have E5 := Aside0.mk e5
  have E6 := Aside0.mk e6
  have E7 := Aside0.mk e7
  have E8 := Aside0.mk e8
  have q1 : ((x.size : Int) == (t.size : Int)) = true := by rw [zx]; exact beq_self_eq_true _
  have q2 : ((z.size : Int) == (t.size : Int)) = true := by rw [zz]; exact beq_self_eq_true _
  have q3 : ((c.size : Int) == (t.size : Int)) = true := by rw [zc]; exact beq_self_eq_true _
  have q4 : ((g0.size : Int) == (t.size : Int)) = true := by rw [zg]; exact beq_self_eq_true _
  clear hN HP HF HG HW e1 e2 e3 e4 e5 e6 e7 e8 hkey ht hts hk hf hf8 hr hs hp hfi zx zz zc zg
  go_enter Try.func13, Try.ntmps13
  go_wp2_with fail
  refine (known_any _).mono ?_
  rintro e w1 ⟨rfl, hb⟩
  have B := Aside0.mk hb
  clear hb
  go_wp2_with fail
  refine (HP'.out _).mono ?_
  rintro e w2 ⟨rfl, hb⟩
  replace B := Aside0.mk (B.out.trans (hb.mono B.out.size))
  clear hb
  go_wp2_with fail
  refine (HF'.out _).mono ?_
  rintro e w3 ⟨rfl, hb⟩
  replace B := Aside0.mk (B.out.trans (hb.mono B.out.size))
  clear hb
  go_wp2_with fail
  refine (HN.out _).mono ?_
  rintro e w4 ⟨g, rfl, hge, hg, hb⟩
  replace B := Aside0.mk (B.out.trans (hb.mono B.out.size))
  have G := Aside0.mk hg
  clear hb hg hge HN
  go_wp2_with fail
  refine (HW'.out _).mono ?_
  rintro e w5 ⟨rfl, hb⟩
  replace B := Aside0.mk (B.out.trans (hb.mono B.out.size))
  replace G := Aside0.mk (G.out.step hb)
  clear hb
  go_wp2_with fail
  refine (HG'.out _).mono ?_
  rintro e w6 ⟨rfl, hb⟩
  replace B := Aside0.mk (B.out.trans (hb.mono B.out.size))
  replace G := Aside0.mk (G.out.step hb)
  clear hb
  go_wp2_with fail
  refine (E1.out g _ G.out).mono ?_
  rintro e w7 ⟨rfl, hb⟩
  replace B := Aside0.mk (B.out.trans (hb.mono B.out.size))
  replace G := Aside0.mk (G.out.step hb)
  clear hb
  go_wp2_with fail
  refine (E2.out g _ G.out).mono ?_
  rintro e w8 ⟨rfl, hb⟩
  replace B := Aside0.mk (B.out.trans (hb.mono B.out.size))
  replace G := Aside0.mk (G.out.step hb)
  clear hb
  go_wp2_with fail
  refine (E3.out g _ G.out).mono ?_
  rintro e w9 ⟨rfl, hb⟩
  replace B := Aside0.mk (B.out.trans (hb.mono B.out.size))
  replace G := Aside0.mk (G.out.step hb)
  clear hb
  go_wp2_with fail
  refine (E4.out g _ G.out).mono ?_
  rintro e w10 ⟨rfl, hb⟩
  replace B := Aside0.mk (B.out.trans (hb.mono B.out.size))
  replace G := Aside0.mk (G.out.step hb)
  clear hb
  go_wp2_with fail
  refine (E5.out g _ G.out).mono ?_
  rintro e w11 ⟨rfl, hb⟩
  replace B := Aside0.mk (B.out.trans (hb.mono B.out.size))
  replace G := Aside0.mk (G.out.step hb)
  clear hb
  go_wp2_with fail
  refine (E6.out g _ G.out).mono ?_
  rintro e w12 ⟨rfl, hb⟩
  replace B := Aside0.mk (B.out.trans (hb.mono B.out.size))
  replace G := Aside0.mk (G.out.step hb)
  clear hb
  go_wp2_with fail
  refine (E7.out g _ G.out).mono ?_
  rintro e w13 ⟨rfl, hb⟩
  replace B := Aside0.mk (B.out.trans (hb.mono B.out.size))
  replace G := Aside0.mk (G.out.step hb)
  clear hb
  go_wp2_with fail
  refine (E8.out g _ G.out).mono ?_
  rintro e w14 ⟨rfl, hb⟩
  replace B := Aside0.mk (B.out.trans (hb.mono B.out.size))
  replace G := Aside0.mk (G.out.step hb)
  clear hb
  clear G E1 E2 E3 E4 E5 E6 E7 E8 HP' HF' HG' HW'
  go_wp2_with fail
  go_ret
  exact ⟨by simp, B.out⟩
end Go.Proofs.Ytopobangjpehnaa.Walk
