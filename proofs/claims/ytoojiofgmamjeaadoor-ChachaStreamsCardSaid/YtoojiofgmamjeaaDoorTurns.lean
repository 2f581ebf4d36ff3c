/-
  The walk of the law ChachaTurns.
  Conditions: the table of the quarters lies as its initialiser lays it.
-/
import Derived.Test.YtoojiofgmamjeaaDoorXor
namespace Go.Proofs.YtoojiofgmamjeaaDoor
open Go.RowKit
set_option linter.unusedVariables false
theorem xo8_xo8 (a b : BitVec 8) : xo8 (xo8 a b) b = a := by unfold xo8; rw [BitVec.xor_assoc, BitVec.xor_self, BitVec.xor_zero]
theorem ctr_at (c : BitVec 32) (m : Nat) (hm : m ≤ 1000) : ((c.toNat : Int) + (m : Int)) % 4294967296 = ((ad c (BitVec.ofNat 32 m)).toNat : Int) := by
  unfold ad
  rw [BitVec.toNat_add, BitVec.toNat_ofNat]
  omega
theorem ks_later (f n : Nat → BitVec 8) (c : BitVec 32) (q k : Nat) : ksB f n (ad c (BitVec.ofNat 32 q)) k = ksB f n c (64 * q + k) := by
  unfold ksB
  rw [show (64 * q + k) / 64 = q + k / 64 by omega, show (64 * q + k) % 64 = k % 64 by omega]
  congr 2
  unfold ad
  rw [BitVec.add_assoc]
  congr 1
  apply BitVec.eq_of_toNat_eq
  rw [BitVec.toNat_add, BitVec.toNat_ofNat, BitVec.toNat_ofNat, BitVec.toNat_ofNat]
  omega
theorem byf_sliced {w : World} {A : Option Addr} {n cap m : Nat} {f : Nat → BitVec 8} (h : Byf w A n f) (hc : n ≤ cap) (hm : m ≤ n) : Byf w (if cap = m then A else A.map (fun x => x.add m)) (n - m) (fun k => f (m + k)) := by
  intro k hk
  obtain ⟨g, o, rfl⟩ := h.some (by omega)
  rw [if_neg (by omega)]
  refine ⟨g, o + m, ?_, ?_⟩
  · show some _ = some _
    congr 1
    unfold Addr.add
    split
    · rename_i h; subst h; rfl
    · rfl
  · have := h.at (m + k) (by omega)
    rw [Nat.add_assoc]
    exact this
set_option maxRecDepth 100000 in
set_option maxHeartbeats 2000000 in
theorem turns_lo (w : World) (ht : Tab w) (A0 : Option Addr) (n0 cap0 : Nat) (h0 : Byts w A0 n0) (l0 : n0 ≤ cap0) (m0 : cap0 ≤ maxLen) (c : BitVec 32) (A2 : Option Addr) (len cap : Nat) (hb : Byts w A2 len) (l2 : len ≤ cap) (m2 : cap ≤ maxLen) (ct : Nat) (hct : ct < 256) (hlen : len ≤ 400) :
    Calls Tryd.prog 4 #[.slice A0 n0 cap0, .int .u32 (c.toNat : Nat), .slice A2 len cap, .int .u8 (ct : Nat)] w fun e w' => e = .returned (.bool true) ∧ Below w.heap.size w w' := by
  obtain ⟨fb, hfb'⟩ := byf_of hb
  have hfb : Byf w A2 (len) fb := fun k hk => hfb' k (by omega)
  have HB := Lib.hid hfb
  have HT := Lib.hid ht
  have HK := Lib.hid (key_any A0 n0 cap0 w h0 l0 m0)
  have M2 := Lib.hid m2
  have hcap : cap ≤ 9223372036854775807 := by unfold maxLen at m2; omega
  clear h0 hb hfb hfb' ht m2
  have q1 : decide ((400 : Int) < (len : Int)) = false := by simp; omega
  go_enter Tryd.func4, Tryd.ntmps4
  go_wp2_with fail
  refine (awake_any _).mono ?_
  rintro e w' ⟨rfl, rfl⟩
  go_wp2_with fail
  refine HK.out.mono ?_
  rintro e w1 ⟨g, o, c1, g2, o2, c2, f, n, rfl, a1, a2, a3, a4, hf, hn, hb1⟩
  have HF := Lib.hid hf
  have HN := Lib.hid hn
  have B1 := Lib.hid hb1
  clear hf hn hb1 HK
  go_wp2_with fail
  refine (xor_any g o c1 g2 o2 c2 f n fb c A2 (len) cap w1 (HT.out.bel B1.out) HF.out HN.out (HB.out.bel B1.out) a1 a3 a2 a4 (by omega)).mono ?_
  rintro e w2 ⟨Ax, cx, rfl, lx, mx, hx, hb2⟩
  have HX := Lib.hid hx
  have B2 := Lib.hid (below_then B1.out hb2 B1.out.size)
  have HF2 := Lib.hid (HF.out.bel hb2)
  have HN2 := Lib.hid (HN.out.bel hb2)
  clear hx hb2
  go_wp2_with fail
  refine (xor_any g o c1 g2 o2 c2 f n (xorB fb f n c) c Ax (len) cx w2 (HT.out.bel B2.out) HF2.out HN2.out HX.out a1 a3 a2 a4 (by omega)).mono ?_
  rintro e w3 ⟨Ay, cy, rfl, ly, my, hy, hb3⟩
  have HY := Lib.hid hy
  have B3 := Lib.hid (below_then B2.out hb3 B2.out.size)
  have HF3 := Lib.hid (HF2.out.bel hb3)
  have HN3 := Lib.hid (HN2.out.bel hb3)
  have HX3 := Lib.hid (HX.out.bel hb3)
  clear hy hb3
  obtain ⟨m, hm⟩ : ∃ m, ct % ((len) + 1) = m := ⟨_, rfl⟩
  have hm1 : m ≤ len := by have := Nat.mod_lt ct (show 0 < (len) + 1 by omega); omega
  have hm2 : (ct : Int) % ((len : Int) + 1) = (m : Int) := by rw [← hm]; push_cast; rfl
  have hm4 : (m : Int) ≤ (cap : Int) := by omega
  have hm3 : (0 : Int) ≤ (m : Int) := by omega
  clear hm
  go_wp2_with fail
  refine (xor_any g o c1 g2 o2 c2 f n fb c A2 m cap w3 (HT.out.bel B3.out) HF3.out HN3.out (fun k hk => (HB.out.bel B3.out) k (by omega)) a1 a3 a2 a4 (by omega)).mono ?_
  rintro e w4 ⟨Az, cz, rfl, lz, mz, hz, hb4⟩
  have HZ := Lib.hid hz
  have B4 := Lib.hid (below_then B3.out hb4 B3.out.size)
  have HF4 := Lib.hid (HF3.out.bel hb4)
  have HN4 := Lib.hid (HN3.out.bel hb4)
  have HX4 := Lib.hid (HX3.out.bel hb4)
  have HY4 := Lib.hid (HY.out.bel hb4)
  clear hz hb4
  have hyeq : Byf w4 Ay (len) fb := fun k hk => by
    obtain ⟨g, o, e, h⟩ := HY4.out k hk
    exact ⟨g, o, e, by rw [h]; unfold xorB; rw [xo8_xo8]⟩
  have E1 := Lib.hid (fun W (d : ∃ d, W = w4.drewN d) => equal_yes Ay A2 (len) cy cap fb W (by obtain ⟨d, rfl⟩ := d; exact hyeq) (by obtain ⟨d, rfl⟩ := d; exact (HB.out.bel B4.out).drewN d) ly (by omega) my M2.out)
  have E2 := Lib.hid (fun W (d : ∃ d, W = w4.drewN d) => equal_yes Az Ax m cz cx (xorB fb f n c) W (by obtain ⟨d, rfl⟩ := d; exact HZ.out) (by obtain ⟨d, rfl⟩ := d; exact fun k hk => HX4.out k (by omega)) lz (by omega) mz mx)
  have hcx : cx ≤ 9223372036854775807 := by unfold maxLen at mx; omega
  have hm5 : (m : Int) ≤ (cx : Int) := by omega
  have z1 : ((((len) : Nat) : Int) == (((len) : Nat) : Int)) = true := by simp
  clear hyeq
  obtain ⟨q, hq⟩ : ∃ q, m / 64 = q := ⟨_, rfl⟩
  obtain ⟨m', hm'⟩ : ∃ m', m - m % 64 = m' := ⟨_, rfl⟩
  have hm6 : (m : Int) - (m : Int) % 64 = (m' : Int) := by omega
  have hm7 : (m' : Int) / 64 = (q : Int) := by omega
  have hm8 : m' = 64 * q := by omega
  have hm9 : (m' : Int) ≤ (((len) : Nat) : Int) := by omega
  have hm10 : (m' : Int) ≤ (cx : Int) := by omega
  have hm11 : (0 : Int) ≤ (m' : Int) := by omega
  have cn := ctr_at c q (by omega)
  have hA3 := byf_sliced (HB.out.bel B4.out) (by omega : (len) ≤ cap) (by omega : m' ≤ len)
  have hA4 := byf_sliced HX4.out lx (by omega : m' ≤ len)
  generalize eA3 : (if cap = m' then A2 else Option.map (fun x => x.add m') A2) = A3 at *
  generalize eA4 : (if cx = m' then Ax else Option.map (fun x => x.add m') Ax) = A4 at *
  have H3 := Lib.hid hA3
  have H4 := Lib.hid hA4
  have M8 := Lib.hid hm8
  clear hA3 hA4 hm8 hq hm'
  go_wp2_with (first | (go_at_call 12; refine (E1.out _ ⟨0, rfl⟩).mono ?_; rintro e w5 ⟨rfl, d5, rfl⟩) | (go_at_call 12; refine (E2.out _ ⟨_, rfl⟩).mono ?_; rintro e w6 ⟨rfl, d6, rfl⟩))
  refine (xor_any g o c1 g2 o2 c2 f n (fun k => fb (m' + k)) (ad c (BitVec.ofNat 32 q)) A3 ((len) - m') (cap - m') _ (HT.out.bel (below_drewN B4.out _)) (HF4.out.drewN _) (HN4.out.drewN _) (H3.out.drewN _) a1 a3 a2 a4 (by omega)).mono ?_
  rintro e w7 ⟨Aw, cw, rfl, lw, mw, hw, hb7⟩
  have B7 := Lib.hid (below_then (below_drewN B4.out _) hb7 B4.out.size)
  have H5 := Lib.hid (H4.out.bel (show Below w4.heap.size w4 w7 from below_then (below_drewN (Below.refl _ _) _) hb7 (Nat.le_refl _)))
  have hweq : Byf w7 Aw ((len) - m') (fun k => xorB fb f n c (m' + k)) := fun k hk => by
    obtain ⟨g, o, e, h⟩ := hw k hk
    exact ⟨g, o, e, by rw [h]; unfold xorB; rw [M8.out, ks_later]⟩
  have E3 := Lib.hid (equal_yes Aw A4 ((len) - m') cw (cx - m') (fun k => xorB fb f n c (m' + k)) w7 hweq H5.out lw (by omega) mw (by omega))
  clear hw hb7 hweq
  go_wp2_with (go_at_call 12; refine E3.out.mono ?_; rintro e w8 ⟨rfl, d8, rfl⟩)
  go_ret
  exact ⟨rfl, below_drewN B7.out _⟩
set_option maxRecDepth 100000 in
set_option maxHeartbeats 2000000 in
theorem turns_hi (w : World) (ht : Tab w) (A0 : Option Addr) (n0 cap0 : Nat) (h0 : Byts w A0 n0) (l0 : n0 ≤ cap0) (m0 : cap0 ≤ maxLen) (c : BitVec 32) (A2 : Option Addr) (len cap : Nat) (hb : Byts w A2 len) (l2 : len ≤ cap) (m2 : cap ≤ maxLen) (ct : Nat) (hct : ct < 256) (hlen : 400 < len) :
    Calls Tryd.prog 4 #[.slice A0 n0 cap0, .int .u32 (c.toNat : Nat), .slice A2 len cap, .int .u8 (ct : Nat)] w fun e w' => e = .returned (.bool true) ∧ Below w.heap.size w w' := by
  obtain ⟨fb, hfb'⟩ := byf_of hb
  have hfb : Byf w A2 (400) fb := fun k hk => hfb' k (by omega)
  have HB := Lib.hid hfb
  have HT := Lib.hid ht
  have HK := Lib.hid (key_any A0 n0 cap0 w h0 l0 m0)
  have M2 := Lib.hid m2
  have hcap : cap ≤ 9223372036854775807 := by unfold maxLen at m2; omega
  clear h0 hb hfb hfb' ht m2
  have q1 : decide ((400 : Int) < (len : Int)) = true := by simp; omega
  go_enter Tryd.func4, Tryd.ntmps4
  go_wp2_with fail
  refine (awake_any _).mono ?_
  rintro e w' ⟨rfl, rfl⟩
  go_wp2_with fail
  refine HK.out.mono ?_
  rintro e w1 ⟨g, o, c1, g2, o2, c2, f, n, rfl, a1, a2, a3, a4, hf, hn, hb1⟩
  have HF := Lib.hid hf
  have HN := Lib.hid hn
  have B1 := Lib.hid hb1
  clear hf hn hb1 HK
  go_wp2_with fail
  refine (xor_any g o c1 g2 o2 c2 f n fb c A2 (400) cap w1 (HT.out.bel B1.out) HF.out HN.out (HB.out.bel B1.out) a1 a3 a2 a4 (by omega)).mono ?_
  rintro e w2 ⟨Ax, cx, rfl, lx, mx, hx, hb2⟩
  have HX := Lib.hid hx
  have B2 := Lib.hid (below_then B1.out hb2 B1.out.size)
  have HF2 := Lib.hid (HF.out.bel hb2)
  have HN2 := Lib.hid (HN.out.bel hb2)
  clear hx hb2
  go_wp2_with fail
  refine (xor_any g o c1 g2 o2 c2 f n (xorB fb f n c) c Ax (400) cx w2 (HT.out.bel B2.out) HF2.out HN2.out HX.out a1 a3 a2 a4 (by omega)).mono ?_
  rintro e w3 ⟨Ay, cy, rfl, ly, my, hy, hb3⟩
  have HY := Lib.hid hy
  have B3 := Lib.hid (below_then B2.out hb3 B2.out.size)
  have HF3 := Lib.hid (HF2.out.bel hb3)
  have HN3 := Lib.hid (HN2.out.bel hb3)
  have HX3 := Lib.hid (HX.out.bel hb3)
  clear hy hb3
  obtain ⟨m, hm⟩ : ∃ m, ct % ((400) + 1) = m := ⟨_, rfl⟩
  have hm1 : m ≤ 400 := by have := Nat.mod_lt ct (show 0 < (400) + 1 by omega); omega
  have hm2 : (ct : Int) % 401 = (m : Int) := by rw [← hm]; push_cast; rfl
  have hm4 : (m : Int) ≤ (cap : Int) := by omega
  have hm3 : (0 : Int) ≤ (m : Int) := by omega
  clear hm
  go_wp2_with fail
  refine (xor_any g o c1 g2 o2 c2 f n fb c A2 m cap w3 (HT.out.bel B3.out) HF3.out HN3.out (fun k hk => (HB.out.bel B3.out) k (by omega)) a1 a3 a2 a4 (by omega)).mono ?_
  rintro e w4 ⟨Az, cz, rfl, lz, mz, hz, hb4⟩
  have HZ := Lib.hid hz
  have B4 := Lib.hid (below_then B3.out hb4 B3.out.size)
  have HF4 := Lib.hid (HF3.out.bel hb4)
  have HN4 := Lib.hid (HN3.out.bel hb4)
  have HX4 := Lib.hid (HX3.out.bel hb4)
  have HY4 := Lib.hid (HY.out.bel hb4)
  clear hz hb4
  have hyeq : Byf w4 Ay (400) fb := fun k hk => by
    obtain ⟨g, o, e, h⟩ := HY4.out k hk
    exact ⟨g, o, e, by rw [h]; unfold xorB; rw [xo8_xo8]⟩
  have E1 := Lib.hid (fun W (d : ∃ d, W = w4.drewN d) => equal_yes Ay A2 (400) cy cap fb W (by obtain ⟨d, rfl⟩ := d; exact hyeq) (by obtain ⟨d, rfl⟩ := d; exact (HB.out.bel B4.out).drewN d) ly (by omega) my M2.out)
  have E2 := Lib.hid (fun W (d : ∃ d, W = w4.drewN d) => equal_yes Az Ax m cz cx (xorB fb f n c) W (by obtain ⟨d, rfl⟩ := d; exact HZ.out) (by obtain ⟨d, rfl⟩ := d; exact fun k hk => HX4.out k (by omega)) lz (by omega) mz mx)
  have hcx : cx ≤ 9223372036854775807 := by unfold maxLen at mx; omega
  have hm5 : (m : Int) ≤ (cx : Int) := by omega
  have z1 : ((((400) : Nat) : Int) == (((400) : Nat) : Int)) = true := by simp
  clear hyeq
  obtain ⟨q, hq⟩ : ∃ q, m / 64 = q := ⟨_, rfl⟩
  obtain ⟨m', hm'⟩ : ∃ m', m - m % 64 = m' := ⟨_, rfl⟩
  have hm6 : (m : Int) - (m : Int) % 64 = (m' : Int) := by omega
  have hm7 : (m' : Int) / 64 = (q : Int) := by omega
  have hm8 : m' = 64 * q := by omega
  have hm9 : (m' : Int) ≤ (((400) : Nat) : Int) := by omega
  have hm10 : (m' : Int) ≤ (cx : Int) := by omega
  have hm11 : (0 : Int) ≤ (m' : Int) := by omega
  have cn := ctr_at c q (by omega)
  have hA3 := byf_sliced (HB.out.bel B4.out) (by omega : (400) ≤ cap) (by omega : m' ≤ 400)
  have hA4 := byf_sliced HX4.out lx (by omega : m' ≤ 400)
  generalize eA3 : (if cap = m' then A2 else Option.map (fun x => x.add m') A2) = A3 at *
  generalize eA4 : (if cx = m' then Ax else Option.map (fun x => x.add m') Ax) = A4 at *
  have H3 := Lib.hid hA3
  have H4 := Lib.hid hA4
  have M8 := Lib.hid hm8
  clear hA3 hA4 hm8 hq hm'
  go_wp2_with (first | (go_at_call 12; refine (E1.out _ ⟨0, rfl⟩).mono ?_; rintro e w5 ⟨rfl, d5, rfl⟩) | (go_at_call 12; refine (E2.out _ ⟨_, rfl⟩).mono ?_; rintro e w6 ⟨rfl, d6, rfl⟩))
  refine (xor_any g o c1 g2 o2 c2 f n (fun k => fb (m' + k)) (ad c (BitVec.ofNat 32 q)) A3 ((400) - m') (cap - m') _ (HT.out.bel (below_drewN B4.out _)) (HF4.out.drewN _) (HN4.out.drewN _) (H3.out.drewN _) a1 a3 a2 a4 (by omega)).mono ?_
  rintro e w7 ⟨Aw, cw, rfl, lw, mw, hw, hb7⟩
  have B7 := Lib.hid (below_then (below_drewN B4.out _) hb7 B4.out.size)
  have H5 := Lib.hid (H4.out.bel (show Below w4.heap.size w4 w7 from below_then (below_drewN (Below.refl _ _) _) hb7 (Nat.le_refl _)))
  have hweq : Byf w7 Aw ((400) - m') (fun k => xorB fb f n c (m' + k)) := fun k hk => by
    obtain ⟨g, o, e, h⟩ := hw k hk
    exact ⟨g, o, e, by rw [h]; unfold xorB; rw [M8.out, ks_later]⟩
  have E3 := Lib.hid (equal_yes Aw A4 ((400) - m') cw (cx - m') (fun k => xorB fb f n c (m' + k)) w7 hweq H5.out lw (by omega) mw (by omega))
  clear hw hb7 hweq
  go_wp2_with (go_at_call 12; refine E3.out.mono ?_; rintro e w8 ⟨rfl, d8, rfl⟩)
  go_ret
  exact ⟨rfl, below_drewN B7.out _⟩
end Go.Proofs.YtoojiofgmamjeaaDoor
