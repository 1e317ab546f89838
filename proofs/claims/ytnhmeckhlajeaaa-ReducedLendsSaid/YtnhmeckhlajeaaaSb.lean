/- Shallow forms of functions, made by program (sh.py), each with the proof that the code does so. -/
import Derived.Test.YtnhmeckhlajeaaaTy
namespace Go.Proofs.Ytnhmeckhlajeaaa
open Go Go.RowKit Go.Shelf
set_option linter.unusedVariables false
set_option maxRecDepth 100000
set_option maxHeartbeats 1000000
/-- (*sandpile/reduced.state).fire: what its code does. -/
def sh_reduced_state_fire (pd : Addr) (Ai : Option Addr) (li : Nat) (ci : Nat) (a : Int) (w : World) (R : World → Prop) : Prop :=
(∀ (g : Nat) (w2 : World), New w g w2 #[(Value.pointer (some pd))] 93 →
(∀ (g2 : Nat) (w3 : World), New w2 g2 w3 #[(Value.int .i64 a)] 3 →
(∃ I2 : Nat → Int → World → Prop, (∃ m0, I2 m0 0 w3) ∧ ∀ (m1 : Nat) (i : Int) (w4 : World), I2 m1 i w4 → 
((i < ((li : Nat) : Int) →
(Ix Ai li i ∧
(∃ x : Bool, w4.cell? (ixA Ai i 1) = some (Value.bool (x)) ∧
(∀ (g3 : Nat) (w5 : World), New w4 g3 w5 #[(Value.int .i64 0)] 3 →
(g3 ≠ g ∧
g3 ≠ g2 ∧
∀ w6, w6 = w5.setCell (⟨g3, 0, none⟩ : Addr) (Value.int .i64 i) →
((x = true →
(∃ Ax : Option Addr, ∃ lx : Nat, ∃ cx : Nat, w6.drew.cell? (Addr.add pd 4) = some (Value.slice Ax lx cx) ∧
(Ix Ax lx i ∧
(∃ x2 : Int, w6.drew.cell? (ixA Ax i 1) = some (Value.int .i64 x2) ∧
(In64 (x2 + a) ∧
(Ix Ax lx i ∧
(Wr w6.drew (ixA Ax i 1) ∧
(ixA Ax i 1).block ≠ g ∧
(ixA Ax i 1).block ≠ g2 ∧
(ixA Ax i 1).block ≠ g3 ∧
∀ w7, w7 = w6.drew.setCell (ixA Ax i 1) (Value.int .i64 (x2 + a)) →
(Calls Try.prog 148 #[(Value.pointer (some pd)), (Value.int .i64 i)] w7 fun e w8 => ∃ r : Value, e = .returned r ∧
Kp w7 w8 g ∧
Kp w7 w8 g2 ∧
Kp w7 w8 g3 ∧
KpM w7 w8 ∧
(∃ (α : Type) (val : α → Array Value) (S : List α → Prop) (Kq : World → World → Prop) (len : Nat) (I3 : List α → World → Prop), IterOf Try.prog r val S Kq len w8 ∧ (∀ x, (val x).size = 2) ∧ Stays w8.heap.size I3 ∧ I3 [] w8 ∧ (∀ pr W, I3 pr W → Kp w8 W g ∧ Kp w8 W g2 ∧ Kp w8 W g3 ∧ True) ∧
(∀ pre (el : α) w9, I3 pre w9 → pre.length < len → ∃ y : Int, ∃ y2 : Int, val el = #[(Value.int .i64 y), (Value.int .i64 y2)] ∧
(∃ Ax2 : Option Addr, ∃ lx2 : Nat, ∃ cx2 : Nat, w9.drew.cell? (Addr.add pd 3) = some (Value.slice Ax2 lx2 cx2) ∧
(Ix Ax2 lx2 i ∧
(∃ x3 : Int, w9.drew.cell? (ixA Ax2 i 1) = some (Value.int .i64 x3) ∧
(In64 (y2 * a) ∧
(In64 (x3 - (y2 * a)) ∧
(Ix Ax2 lx2 i ∧
(Wr w9.drew (ixA Ax2 i 1) ∧
(ixA Ax2 i 1).block ≠ g ∧
(ixA Ax2 i 1).block ≠ g2 ∧
(ixA Ax2 i 1).block ≠ g3 ∧
∀ w11, w11 = w9.drew.setCell (ixA Ax2 i 1) (Value.int .i64 (x3 - (y2 * a))) →
(∃ Ax3 : Option Addr, ∃ lx3 : Nat, ∃ cx3 : Nat, w11.drew.cell? (Addr.add pd 3) = some (Value.slice Ax3 lx3 cx3) ∧
(Ix Ax3 lx3 y ∧
(∃ x4 : Int, w11.drew.cell? (ixA Ax3 y 1) = some (Value.int .i64 x4) ∧
(In64 (y2 * a) ∧
(In64 (x4 + (y2 * a)) ∧
(Ix Ax3 lx3 y ∧
(Wr w11.drew (ixA Ax3 y 1) ∧
(ixA Ax3 y 1).block ≠ g ∧
(ixA Ax3 y 1).block ≠ g2 ∧
(ixA Ax3 y 1).block ≠ g3 ∧
∀ w12, w12 = w11.drew.setCell (ixA Ax3 y 1) (Value.int .i64 (x4 + (y2 * a))) →
(KeepsOthers w9 w12 ∧ Kq w9 w12 ∧ I3 (pre ++ [el]) w12)))))))))))))))) ∧
(∀ xs w10, S xs → I3 xs w10 →
KpM w8 w10 ∧
(In64 (i + 1) ∧
∃ m2, m2 < m1 ∧ I2 m2 (i + 1) w10))))))))))) ∧
(¬ (x = true) →
(In64 (i + 1) ∧
∃ m3, m3 < m1 ∧ I2 m3 (i + 1) w6)))))))) ∧
(¬ (i < ((li : Nat) : Int)) →
(∃ Ax4 : Option Addr, ∃ lx4 : Nat, ∃ cx4 : Nat, w4.cell? (Addr.add pd 3) = some (Value.slice Ax4 lx4 cx4) ∧
(∃ I4 : Nat → Int → World → Prop, (∃ m0, I4 m0 0 w4) ∧ ∀ (m4 : Nat) (i2 : Int) (w13 : World), I4 m4 i2 w13 → 
((i2 < ((lx4 : Nat) : Int) →
(∃ Ax5 : Option Addr, ∃ lx5 : Nat, ∃ cx5 : Nat, w13.drew.cell? (Addr.add pd 3) = some (Value.slice Ax5 lx5 cx5) ∧
(Ix Ax5 lx5 i2 ∧
(∃ x5 : Int, w13.drew.cell? (ixA Ax5 i2 1) = some (Value.int .i64 x5) ∧
(∃ Ax6 : Option Addr, ∃ lx6 : Nat, ∃ cx6 : Nat, w13.drew.cell? (Addr.add pd 3) = some (Value.slice Ax6 lx6 cx6) ∧
(Ix Ax6 lx6 i2 ∧
(∃ x6 : Int, w13.drew.cell? (ixA Ax6 i2 1) = some (Value.int .i64 x6) ∧
(In64 (-x6) ∧
(∃ Ax7 : Option Addr, ∃ lx7 : Nat, ∃ cx7 : Nat, w13.drew.cell? (Addr.add pd 4) = some (Value.slice Ax7 lx7 cx7) ∧
(Ix Ax7 lx7 i2 ∧
(∃ x7 : Int, w13.drew.cell? (ixA Ax7 i2 1) = some (Value.int .i64 x7) ∧
(∃ Ax8 : Option Addr, ∃ lx8 : Nat, ∃ cx8 : Nat, w13.drew.cell? (Addr.add pd 4) = some (Value.slice Ax8 lx8 cx8) ∧
(Ix Ax8 lx8 i2 ∧
(∃ x8 : Int, w13.drew.cell? (ixA Ax8 i2 1) = some (Value.int .i64 x8) ∧
(In64 (-x8) ∧
((2097152 < (mxF4 x5 (-x6) x7 (-x8)) →
(∃ x9 : Int, w13.drew.cell? (Addr.add pd 5) = some (Value.int .i64 x9) ∧
((x9 = 0 →
(Wr w13.drew (Addr.add pd 5) ∧
(Addr.add pd 5).block ≠ g ∧
(Addr.add pd 5).block ≠ g2 ∧
∀ w14, w14 = w13.drew.setCell (Addr.add pd 5) (Value.int .i64 11) →
(In64 (i2 + 1) ∧
∃ m5, m5 < m4 ∧ I4 m5 (i2 + 1) w14))) ∧
(¬ (x9 = 0) →
(In64 (i2 + 1) ∧
∃ m6, m6 < m4 ∧ I4 m6 (i2 + 1) w13.drew))))) ∧
(¬ (2097152 < (mxF4 x5 (-x6) x7 (-x8))) →
(In64 (i2 + 1) ∧
∃ m7, m7 < m4 ∧ I4 m7 (i2 + 1) w13.drew)))))))))))))))))) ∧
(¬ (i2 < ((lx4 : Nat) : Int)) →
(∀ wz, After w.heap.size w13 wz → R wz))))))))))
theorem ok_reduced_state_fire (pd : Addr) (Ai : Option Addr) (li : Nat) (ci : Nat) (a : Int) (w : World) (R : World → Prop) (h : sh_reduced_state_fire pd Ai li ci a w R) :
    Calls Try.prog 112 #[(Value.pointer (some pd)), (Value.slice Ai li ci), (Value.int .i64 a)] w fun e w' => e = .returned (Value.tuple #[]) ∧ R  w' := by
  unfold sh_reduced_state_fire at h
  refine calls_shm (l := [(Value.pointer (some pd)), (Value.slice Ai li ci), (Value.int .i64 a)]) Try.func112 rfl Try.ntmps112 (Nat.le_of_ble_eq_true rfl) ?_
  have hM := Marks.nil w
  refine wt_seq ?_
  refine wl_region wd_wide ?_
  refine rl_n rfl rfl rfl rfl (n_box (v := (Value.pointer (some pd))) rfl ?_)
  intro g w2 hN
  replace h := h g w2 hN
  replace hM := hM.kp hN.kpm
  have rB : Row w2 g 93 1 [(Value.pointer (some pd))] := hN.row
  clear hN
  refine ⟨Stb.none _, ?_⟩
  refine rl_n rfl rfl rfl rfl (n_box (v := (Value.int .i64 a)) rfl ?_)
  intro g2 w3 hN2
  replace h := h g2 w3 hN2
  replace hM := hM.kp hN2.kpm
  replace rB := rB.kp (hN2.kp _)
  have rB2 : Row w3 g2 3 1 [(Value.int .i64 a)] := hN2.row
  clear hN2
  refine ⟨Stb.none _, ?_⟩
  refine rl_end ?_
  refine wt_seq ?_
  refine wt_seq ?_
  refine wl_region wd_wide ?_
  refine rl_q rfl rfl rfl (v_move (v := (Value.slice Ai li ci)) rfl) ?_
  refine rl_q rfl rfl rfl (v_len rfl Try.underlying102) ?_
  refine rl_q rfl rfl rfl (v_move (v := (Value.int .i64 0)) rfl) ?_
  refine rl_end ?_
  refine wt_block ?_
  obtain ⟨I2, ⟨m0, h0⟩, hr⟩ := h
  refine wt_loop (fun m E ds w' => ∃ i : Int, I2 m i w' ∧ Marks w.heap.size ds w' ∧ E 3 = (Value.pointer (some (⟨g, 0, none⟩ : Addr))) ∧ E 5 = (Value.pointer (some (⟨g2, 0, none⟩ : Addr))) ∧ E 11 = (Value.slice Ai li ci) ∧ E 12 = (Value.int .i64 ((li : Nat) : Int)) ∧ E 13 = (Value.int .i64 i) ∧ Row w' g 93 1 [(Value.pointer (some pd))] ∧ Row w' g2 3 1 [(Value.int .i64 a)]) m0 ⟨_, h0, hM, rfl, rfl, rfl, rfl, rfl, rB, rB2⟩ ?_
  clear h0
  rintro m1 E ds w4 ⟨i, h, hM, hE3, hE5, hE11, hE12, hE13, rB, rB2⟩ again
  replace h := hr m1 i w4 h
  clear hr
  refine wt_seq ?_
  refine wl_region wd_wide ?_
  refine rl_q rfl rfl rfl (v_lss hE13 hE12) ?_
  refine rl_end ?_
  refine wt_seq ?_
  by_cases hp : i < ((li : Nat) : Int)
  · replace h := h.1 hp
    refine wt_cond_t (congrArg Value.bool (decide_eq_true hp)) ?_
    refine wt_skip ?_
    refine wt_seq ?_
    refine wt_block ?_
    refine wt_seq ?_
    refine wl_region wd_wide ?_
    refine rl_q rfl rfl rfl (v_move (v := (Value.int .i64 i)) hE13) ?_
    obtain ⟨hx, h⟩ := h
    refine rl_q rfl rfl rfl (v_iaddr hE11 hE13 Try.underlying102 info_4 hx) ?_
    obtain ⟨x, hc, h⟩ := h
    refine rl_q rfl rfl rfl (v_load rfl Try.underlying4 rfl hc) ?_
    refine rl_n rfl rfl rfl rfl (n_alloc info_3 ?_)
    intro g3 w5 hN3
    replace h := h g3 w5 hN3
    replace hM := hM.kp hN3.kpm
    replace rB := rB.kp (hN3.kp _)
    replace rB2 := rB2.kp (hN3.kp _)
    have rB3 : Row w5 g3 3 1 [(Value.int .i64 0)] := hN3.row
    clear hN3
    refine ⟨Stb.none _, ?_⟩
    obtain ⟨hb, h⟩ := h
    obtain ⟨hb2, h⟩ := h
    refine rl_n0 rfl rfl rfl (n_store (v := (Value.int .i64 i)) rfl rfl rfl info_3 (wr_row rB3 (i := 0) rfl) ?_)
    intro w6 ew
    replace h := h w6 ew
    replace hM : Marks _ _ w6 := hM.kp (by rw [ew]; exact kpm_set)
    replace rB3 : Row w6 g3 3 1 [(Value.int .i64 i)] := row_set rB3 0 (Value.int .i64 i) ew
    replace rB : Row w6 g 93 1 [(Value.pointer (some pd))] := rB.kp (by rw [ew]; exact kp_set hb)
    replace rB2 : Row w6 g2 3 1 [(Value.int .i64 a)] := rB2.kp (by rw [ew]; exact kp_set hb2)
    clear ew
    refine ⟨Stb.none _, ?_⟩
    refine rl_q rfl rfl rfl (v_assign (v := (Value.bool (x))) rfl) ?_
    refine rl_end ?_
    refine wt_seq ?_
    refine wt_seq ?_
    refine wl_region wd_wide ?_
    refine rl_q rfl rfl rfl (v_move (v := (Value.bool (x))) rfl) ?_
    refine rl_q rfl rfl rfl (v_not rfl) ?_
    refine rl_end ?_
    by_cases hp2 : x = true
    · replace h := h.1 hp2
      refine wt_cond_f (congrArg Value.bool (congrArg Bool.not hp2)) ?_
      refine wt_skip ?_
      refine wt_seq ?_
      refine wp_draw [0, 1, 2, 3, 4, 5, 6, 7, 8, 9, 10] st0 wd_wide (by kernel_rfl) (by kernel_rfl) ?_
      replace hM := hM.kp (KpM.drew _)
      replace rB := rB.drew
      replace rB2 := rB2.drew
      replace rB3 := rB3.drew
      refine rp_q rfl rfl rfl (v_load hE3 Try.underlying93 rfl (Row.cell rB (i := 0) rfl)) ?_
      refine rp_q rfl rfl rfl (v_nil rfl) ?_
      refine rp_q rfl rfl rfl (v_faddr rfl Try.underlying137 rfl info_30) ?_
      obtain ⟨Ax, lx, cx, hc2, h⟩ := h
      refine rp_q rfl rfl rfl (v_load rfl Try.underlying30 rfl hc2) ?_
      refine rp_q rfl rfl rfl (v_load rfl Try.underlying3 rfl (Row.cell rB3 (i := 0) rfl)) ?_
      obtain ⟨hx2, h⟩ := h
      refine rp_q rfl rfl rfl (v_iaddr rfl rfl Try.underlying30 info_3 hx2) ?_
      obtain ⟨x2, hc3, h⟩ := h
      refine rp_q rfl rfl rfl (v_load rfl Try.underlying3 rfl hc3) ?_
      refine rp_q rfl rfl rfl (v_load hE5 Try.underlying3 rfl (Row.cell rB2 (i := 0) rfl)) ?_
      obtain ⟨hi, h⟩ := h
      refine rp_q rfl rfl rfl (v_add rfl rfl hi) ?_
      obtain ⟨hx3, h⟩ := h
      refine rp_q rfl rfl rfl (v_iaddr rfl rfl Try.underlying30 info_3 hx3) ?_
      obtain ⟨hw2, h⟩ := h
      obtain ⟨hb3, h⟩ := h
      obtain ⟨hb4, h⟩ := h
      obtain ⟨hb5, h⟩ := h
      refine rp_n0 rfl rfl rfl (n_store (v := (Value.int .i64 (x2 + a))) rfl rfl rfl info_3 hw2 ?_)
      intro w7 ew2
      replace h := h w7 ew2
      replace hM : Marks _ _ w7 := hM.kp (by rw [ew2]; exact kpm_set)
      replace rB : Row w7 g 93 1 [(Value.pointer (some pd))] := rB.kp (by rw [ew2]; exact kp_set hb3)
      replace rB2 : Row w7 g2 3 1 [(Value.int .i64 a)] := rB2.kp (by rw [ew2]; exact kp_set hb4)
      replace rB3 : Row w7 g3 3 1 [(Value.int .i64 i)] := rB3.kp (by rw [ew2]; exact kp_set hb5)
      clear ew2
      refine ⟨Stb.none _, ?_⟩
      refine rp_end ?_
      refine wt_seq ?_
      refine wl_region wd_wide ?_
      refine rl_q rfl rfl rfl (v_load hE3 Try.underlying93 rfl (Row.cell rB (i := 0) rfl)) ?_
      refine rl_q rfl rfl rfl (v_load rfl Try.underlying3 rfl (Row.cell rB3 (i := 0) rfl)) ?_
      refine rl_n rfl rfl rfl rfl (n_call0 rfl (am2 rfl rfl) enter_148 (h.mono ?_))
      rintro _ w8 ⟨r, rfl, hk, hk2, hk3, hkm, h⟩
      replace hM := hM.kp hkm
      replace rB := rB.kp hk
      replace rB2 := rB2.kp hk2
      replace rB3 := rB3.kp hk3
      refine ⟨_, rfl, Stb.none _, ?_⟩
      refine rl_end ?_
      refine wt_block ?_
      obtain ⟨α, val, S, Kq, len, I3, hIt, hsz, hst, h0, hkp, hb, h⟩ := h
      refine wt_range rfl hIt hsz rfl rfl I3 hst h0 ?_ ?_
      · intro ll pre el w9 hIp hlen
        obtain ⟨y, y2, hv, h⟩ := hb pre el w9 hIp hlen
        rw [hv]
        replace rB := rB.kp (hkp pre w9 hIp).1
        replace rB2 := rB2.kp (hkp pre w9 hIp).2.1
        replace rB3 := rB3.kp (hkp pre w9 hIp).2.2.1
        refine wt_block ?_
        refine wt_seq ?_
        refine wp_draw [0, 1, 2, 3, 4, 5, 6, 7, 8, 9, 10, 11, 12] st0 (wd_round ll) (by kernel_rfl) (by kernel_rfl) ?_
        replace rB := rB.drew
        replace rB2 := rB2.drew
        replace rB3 := rB3.drew
        refine rp_q rfl rfl rfl (v_load hE3 Try.underlying93 rfl (Row.cell rB (i := 0) rfl)) ?_
        refine rp_q rfl rfl rfl (v_nil rfl) ?_
        refine rp_q rfl rfl rfl (v_faddr rfl Try.underlying137 rfl info_26) ?_
        obtain ⟨Ax2, lx2, cx2, hc4, h⟩ := h
        refine rp_q rfl rfl rfl (v_load rfl Try.underlying26 rfl hc4) ?_
        refine rp_q rfl rfl rfl (v_load rfl Try.underlying3 rfl (Row.cell rB3 (i := 0) rfl)) ?_
        obtain ⟨hx4, h⟩ := h
        refine rp_q rfl rfl rfl (v_iaddr rfl rfl Try.underlying26 info_3 hx4) ?_
        obtain ⟨x3, hc5, h⟩ := h
        refine rp_q rfl rfl rfl (v_load rfl Try.underlying3 rfl hc5) ?_
        refine rp_q rfl rfl rfl (v_move (v := (Value.int .i64 y2)) rfl) ?_
        refine rp_q rfl rfl rfl (v_load hE5 Try.underlying3 rfl (Row.cell rB2 (i := 0) rfl)) ?_
        obtain ⟨hi2, h⟩ := h
        refine rp_q rfl rfl rfl (v_mul rfl rfl hi2) ?_
        obtain ⟨hi3, h⟩ := h
        refine rp_q rfl rfl rfl (v_sub rfl rfl hi3) ?_
        obtain ⟨hx5, h⟩ := h
        refine rp_q rfl rfl rfl (v_iaddr rfl rfl Try.underlying26 info_3 hx5) ?_
        obtain ⟨hw3, h⟩ := h
        obtain ⟨hb6, h⟩ := h
        obtain ⟨hb7, h⟩ := h
        obtain ⟨hb8, h⟩ := h
        refine rp_n0 rfl rfl rfl (n_store (v := (Value.int .i64 (x3 - (y2 * a)))) rfl rfl rfl info_3 hw3 ?_)
        intro w11 ew3
        replace h := h w11 ew3
        replace rB : Row w11 g 93 1 [(Value.pointer (some pd))] := rB.kp (by rw [ew3]; exact kp_set hb6)
        replace rB2 : Row w11 g2 3 1 [(Value.int .i64 a)] := rB2.kp (by rw [ew3]; exact kp_set hb7)
        replace rB3 : Row w11 g3 3 1 [(Value.int .i64 i)] := rB3.kp (by rw [ew3]; exact kp_set hb8)
        clear ew3
        refine ⟨Stb.none _, ?_⟩
        refine rp_end ?_
        refine wp_draw [0, 1, 2, 3, 4, 5, 6, 7, 8, 9, 10, 11, 12] st0 (wd_round ll) (by kernel_rfl) (by kernel_rfl) ?_
        replace rB := rB.drew
        replace rB2 := rB2.drew
        replace rB3 := rB3.drew
        refine rp_q rfl rfl rfl (v_load hE3 Try.underlying93 rfl (Row.cell rB (i := 0) rfl)) ?_
        refine rp_q rfl rfl rfl (v_nil rfl) ?_
        refine rp_q rfl rfl rfl (v_faddr rfl Try.underlying137 rfl info_26) ?_
        obtain ⟨Ax3, lx3, cx3, hc6, h⟩ := h
        refine rp_q rfl rfl rfl (v_load rfl Try.underlying26 rfl hc6) ?_
        refine rp_q rfl rfl rfl (v_move (v := (Value.int .i64 y)) rfl) ?_
        obtain ⟨hx6, h⟩ := h
        refine rp_q rfl rfl rfl (v_iaddr rfl rfl Try.underlying26 info_3 hx6) ?_
        obtain ⟨x4, hc7, h⟩ := h
        refine rp_q rfl rfl rfl (v_load rfl Try.underlying3 rfl hc7) ?_
        refine rp_q rfl rfl rfl (v_move (v := (Value.int .i64 y2)) rfl) ?_
        refine rp_q rfl rfl rfl (v_load hE5 Try.underlying3 rfl (Row.cell rB2 (i := 0) rfl)) ?_
        obtain ⟨hi4, h⟩ := h
        refine rp_q rfl rfl rfl (v_mul rfl rfl hi4) ?_
        obtain ⟨hi5, h⟩ := h
        refine rp_q rfl rfl rfl (v_add rfl rfl hi5) ?_
        obtain ⟨hx7, h⟩ := h
        refine rp_q rfl rfl rfl (v_iaddr rfl rfl Try.underlying26 info_3 hx7) ?_
        obtain ⟨hw4, h⟩ := h
        obtain ⟨hb9, h⟩ := h
        obtain ⟨hb10, h⟩ := h
        obtain ⟨hb11, h⟩ := h
        refine rp_n0 rfl rfl rfl (n_store (v := (Value.int .i64 (x4 + (y2 * a)))) rfl rfl rfl info_3 hw4 ?_)
        intro w12 ew4
        replace h := h w12 ew4
        replace rB : Row w12 g 93 1 [(Value.pointer (some pd))] := rB.kp (by rw [ew4]; exact kp_set hb9)
        replace rB2 : Row w12 g2 3 1 [(Value.int .i64 a)] := rB2.kp (by rw [ew4]; exact kp_set hb10)
        replace rB3 : Row w12 g3 3 1 [(Value.int .i64 i)] := rB3.kp (by rw [ew4]; exact kp_set hb11)
        clear ew4
        refine ⟨Stb.none _, ?_⟩
        refine rp_end ?_
        refine wt_inBlock ?_
        exact wt_nil (fun a r => h)
      · intro D xs w10 hD hS hIp hK
        replace h := h xs w10 hS hIp
        replace rB := rB.kp (hkp xs w10 hIp).1
        replace rB2 := rB2.kp (hkp xs w10 hIp).2.1
        replace rB3 := rB3.kp (hkp xs w10 hIp).2.2.1
        obtain ⟨hkm, h⟩ := h
        replace hM := Marks.push hM hkm hD hK
        refine wt_inBlock ?_
        refine wt_inBlock ?_
        refine wl_region wd_wide ?_
        obtain ⟨hi6, h⟩ := h
        refine rl_q rfl rfl rfl (v_add hE13 rfl hi6) ?_
        refine rl_q rfl rfl rfl (v_move (v := (Value.int .i64 (i + 1))) rfl) ?_
        refine rl_end ?_
        obtain ⟨mq, hlt, h⟩ := h
        exact again mq _ _ _ ⟨_, h, hM, hE3, hE5, hE11, hE12, rfl, rB, rB2⟩ hlt
    · replace h := h.2 hp2
      refine wt_cond_t (congrArg Value.bool (congrArg Bool.not (Bool.eq_false_iff.2 hp2))) ?_
      refine wt_exit rfl ?_
      refine wl_region wd_wide ?_
      obtain ⟨hi7, h⟩ := h
      refine rl_q rfl rfl rfl (v_add hE13 rfl hi7) ?_
      refine rl_q rfl rfl rfl (v_move (v := (Value.int .i64 (i + 1))) rfl) ?_
      refine rl_end ?_
      obtain ⟨mq, hlt, h⟩ := h
      exact again mq _ _ _ ⟨_, h, hM, hE3, hE5, hE11, hE12, rfl, rB, rB2⟩ hlt
  · replace h := h.2 hp
    refine wt_cond_f (congrArg Value.bool (decide_eq_false hp)) ?_
    refine wt_exit rfl ?_
    refine wt_seq ?_
    refine wl_region wd_wide ?_
    refine rl_q rfl rfl rfl (v_load hE3 Try.underlying93 rfl (Row.cell rB (i := 0) rfl)) ?_
    refine rl_q rfl rfl rfl (v_nil rfl) ?_
    refine rl_q rfl rfl rfl (v_faddr rfl Try.underlying137 rfl info_26) ?_
    obtain ⟨Ax4, lx4, cx4, hc8, h⟩ := h
    refine rl_q rfl rfl rfl (v_load rfl Try.underlying26 rfl hc8) ?_
    refine rl_q rfl rfl rfl (v_len rfl Try.underlying26) ?_
    refine rl_q rfl rfl rfl (v_move (v := (Value.int .i64 0)) rfl) ?_
    refine rl_end ?_
    refine wt_block ?_
    obtain ⟨I4, ⟨m0, h0⟩, hr⟩ := h
    refine wt_loop (fun m E ds w' => ∃ i2 : Int, I4 m i2 w' ∧ Marks w.heap.size ds w' ∧ E 3 = (Value.pointer (some (⟨g, 0, none⟩ : Addr))) ∧ E 64 = (Value.int .i64 ((lx4 : Nat) : Int)) ∧ E 65 = (Value.int .i64 i2) ∧ Row w' g 93 1 [(Value.pointer (some pd))] ∧ Row w' g2 3 1 [(Value.int .i64 a)]) m0 ⟨_, h0, hM, hE3, rfl, rfl, rB, rB2⟩ ?_
    clear h0
    rintro m4 E ds w13 ⟨i2, h, hM, hE3, hE64, hE65, rB, rB2⟩ again2
    replace h := hr m4 i2 w13 h
    clear hr
    refine wt_seq ?_
    refine wl_region wd_wide ?_
    refine rl_q rfl rfl rfl (v_lss hE65 hE64) ?_
    refine rl_end ?_
    refine wt_seq ?_
    by_cases hp3 : i2 < ((lx4 : Nat) : Int)
    · replace h := h.1 hp3
      refine wt_cond_t (congrArg Value.bool (decide_eq_true hp3)) ?_
      refine wt_skip ?_
      refine wt_seq ?_
      refine wt_block ?_
      refine wt_seq ?_
      refine wl_region wd_wide ?_
      refine rl_q rfl rfl rfl (v_move (v := (Value.int .i64 i2)) hE65) ?_
      refine rl_q rfl rfl rfl (v_assign (v := (Value.int .i64 i2)) rfl) ?_
      refine rl_end ?_
      refine wt_seq ?_
      refine wp_draw [0, 1, 2, 3, 4, 5, 6, 7, 8, 9, 10, 11, 12, 13, 14, 15, 16, 17, 18, 19, 20, 21, 22, 23, 24, 25, 26, 27, 28, 29, 30, 31, 32, 33, 34, 35, 36, 37, 38] st0 wd_wide (by kernel_rfl) (by kernel_rfl) ?_
      replace hM := hM.kp (KpM.drew _)
      replace rB := rB.drew
      replace rB2 := rB2.drew
      refine rp_q rfl rfl rfl (v_load hE3 Try.underlying93 rfl (Row.cell rB (i := 0) rfl)) ?_
      refine rp_q rfl rfl rfl (v_nil rfl) ?_
      refine rp_q rfl rfl rfl (v_faddr rfl Try.underlying137 rfl info_26) ?_
      obtain ⟨Ax5, lx5, cx5, hc9, h⟩ := h
      refine rp_q rfl rfl rfl (v_load rfl Try.underlying26 rfl hc9) ?_
      refine rp_q rfl rfl rfl (v_move (v := (Value.int .i64 i2)) rfl) ?_
      obtain ⟨hx8, h⟩ := h
      refine rp_q rfl rfl rfl (v_iaddr rfl rfl Try.underlying26 info_3 hx8) ?_
      obtain ⟨x5, hc10, h⟩ := h
      refine rp_q rfl rfl rfl (v_load rfl Try.underlying3 rfl hc10) ?_
      refine rp_q rfl rfl rfl (v_load hE3 Try.underlying93 rfl (Row.cell rB (i := 0) rfl)) ?_
      refine rp_q rfl rfl rfl (v_nil rfl) ?_
      refine rp_q rfl rfl rfl (v_faddr rfl Try.underlying137 rfl info_26) ?_
      obtain ⟨Ax6, lx6, cx6, hc11, h⟩ := h
      refine rp_q rfl rfl rfl (v_load rfl Try.underlying26 rfl hc11) ?_
      refine rp_q rfl rfl rfl (v_move (v := (Value.int .i64 i2)) rfl) ?_
      obtain ⟨hx9, h⟩ := h
      refine rp_q rfl rfl rfl (v_iaddr rfl rfl Try.underlying26 info_3 hx9) ?_
      obtain ⟨x6, hc12, h⟩ := h
      refine rp_q rfl rfl rfl (v_load rfl Try.underlying3 rfl hc12) ?_
      obtain ⟨hi8, h⟩ := h
      refine rp_q rfl rfl rfl (v_neg rfl hi8) ?_
      refine rp_q rfl rfl rfl (v_load hE3 Try.underlying93 rfl (Row.cell rB (i := 0) rfl)) ?_
      refine rp_q rfl rfl rfl (v_nil rfl) ?_
      refine rp_q rfl rfl rfl (v_faddr rfl Try.underlying137 rfl info_30) ?_
      obtain ⟨Ax7, lx7, cx7, hc13, h⟩ := h
      refine rp_q rfl rfl rfl (v_load rfl Try.underlying30 rfl hc13) ?_
      refine rp_q rfl rfl rfl (v_move (v := (Value.int .i64 i2)) rfl) ?_
      obtain ⟨hx10, h⟩ := h
      refine rp_q rfl rfl rfl (v_iaddr rfl rfl Try.underlying30 info_3 hx10) ?_
      obtain ⟨x7, hc14, h⟩ := h
      refine rp_q rfl rfl rfl (v_load rfl Try.underlying3 rfl hc14) ?_
      refine rp_q rfl rfl rfl (v_load hE3 Try.underlying93 rfl (Row.cell rB (i := 0) rfl)) ?_
      refine rp_q rfl rfl rfl (v_nil rfl) ?_
      refine rp_q rfl rfl rfl (v_faddr rfl Try.underlying137 rfl info_30) ?_
      obtain ⟨Ax8, lx8, cx8, hc15, h⟩ := h
      refine rp_q rfl rfl rfl (v_load rfl Try.underlying30 rfl hc15) ?_
      refine rp_q rfl rfl rfl (v_move (v := (Value.int .i64 i2)) rfl) ?_
      obtain ⟨hx11, h⟩ := h
      refine rp_q rfl rfl rfl (v_iaddr rfl rfl Try.underlying30 info_3 hx11) ?_
      obtain ⟨x8, hc16, h⟩ := h
      refine rp_q rfl rfl rfl (v_load rfl Try.underlying3 rfl hc16) ?_
      obtain ⟨hi9, h⟩ := h
      refine rp_q rfl rfl rfl (v_neg rfl hi9) ?_
      refine rp_q rfl rfl rfl (v_max4 rfl rfl rfl rfl) ?_
      refine rp_q rfl rfl rfl (v_gtr rfl rfl) ?_
      refine rp_q rfl rfl rfl (v_move (v := (Value.bool (decide (2097152 < (mxF4 x5 (-x6) x7 (-x8)))))) rfl) ?_
      by_cases hp4 : 2097152 < (mxF4 x5 (-x6) x7 (-x8))
      · replace h := h.1 hp4
        refine rp_q (wanted_g rfl (yE_of rfl (congrArg Value.bool (decide_eq_true hp4)))) rfl rfl (v_load hE3 Try.underlying93 rfl (Row.cell rB (i := 0) rfl)) ?_
        refine rp_q (wanted_g rfl (yE_of rfl (congrArg Value.bool (decide_eq_true hp4)))) rfl rfl (v_nil rfl) ?_
        refine rp_q (wanted_g rfl (yE_of rfl (congrArg Value.bool (decide_eq_true hp4)))) rfl rfl (v_faddr rfl Try.underlying137 rfl info_31) ?_
        obtain ⟨x9, hc17, h⟩ := h
        refine rp_q (wanted_g rfl (yE_of rfl (congrArg Value.bool (decide_eq_true hp4)))) rfl rfl (v_load rfl Try.underlying31 rfl hc17) ?_
        refine rp_q (wanted_g rfl (yE_of rfl (congrArg Value.bool (decide_eq_true hp4)))) rfl rfl (v_eql rfl rfl) ?_
        refine rp_q rfl rfl rfl (v_pick_t (v := (Value.bool (decide (x9 = 0)))) (congrArg Value.bool (decide_eq_true hp4)) rfl) ?_
        refine rp_end ?_
        by_cases hp5 : x9 = 0
        · replace h := h.1 hp5
          refine wt_cond_t (congrArg Value.bool (decide_eq_true hp5)) ?_
          refine wl_region wd_wide ?_
          refine rl_q rfl rfl rfl (v_load hE3 Try.underlying93 rfl (Row.cell rB (i := 0) rfl)) ?_
          refine rl_q rfl rfl rfl (v_nil rfl) ?_
          refine rl_q rfl rfl rfl (v_faddr rfl Try.underlying137 rfl info_31) ?_
          obtain ⟨hw5, h⟩ := h
          obtain ⟨hb12, h⟩ := h
          obtain ⟨hb13, h⟩ := h
          refine rl_n0 rfl rfl rfl (n_store (v := (Value.int .i64 11)) rfl rfl rfl info_31 hw5 ?_)
          intro w14 ew5
          replace h := h w14 ew5
          replace hM : Marks _ _ w14 := hM.kp (by rw [ew5]; exact kpm_set)
          replace rB : Row w14 g 93 1 [(Value.pointer (some pd))] := rB.kp (by rw [ew5]; exact kp_set hb12)
          replace rB2 : Row w14 g2 3 1 [(Value.int .i64 a)] := rB2.kp (by rw [ew5]; exact kp_set hb13)
          clear ew5
          refine ⟨Stb.none _, ?_⟩
          refine rl_end ?_
          refine wt_inBlock ?_
          refine wl_region wd_wide ?_
          obtain ⟨hi10, h⟩ := h
          refine rl_q rfl rfl rfl (v_add hE65 rfl hi10) ?_
          refine rl_q rfl rfl rfl (v_move (v := (Value.int .i64 (i2 + 1))) rfl) ?_
          refine rl_end ?_
          obtain ⟨mq, hlt, h⟩ := h
          exact again2 mq _ _ _ ⟨_, h, hM, hE3, hE64, rfl, rB, rB2⟩ hlt
        · replace h := h.2 hp5
          refine wt_cond_f (congrArg Value.bool (decide_eq_false hp5)) ?_
          refine wt_skip ?_
          refine wt_inBlock ?_
          refine wl_region wd_wide ?_
          obtain ⟨hi11, h⟩ := h
          refine rl_q rfl rfl rfl (v_add hE65 rfl hi11) ?_
          refine rl_q rfl rfl rfl (v_move (v := (Value.int .i64 (i2 + 1))) rfl) ?_
          refine rl_end ?_
          obtain ⟨mq, hlt, h⟩ := h
          exact again2 mq _ _ _ ⟨_, h, hM, hE3, hE64, rfl, rB, rB2⟩ hlt
      · replace h := h.2 hp4
        refine rp_p (wanted_n rfl (yE_of rfl (congrArg Value.bool (decide_eq_false hp4))) rfl) rfl ?_
        refine rp_p (wanted_n rfl (yE_of rfl (congrArg Value.bool (decide_eq_false hp4))) rfl) rfl ?_
        refine rp_p (wanted_n rfl (yE_of rfl (congrArg Value.bool (decide_eq_false hp4))) rfl) rfl ?_
        refine rp_p (wanted_n rfl (yE_of rfl (congrArg Value.bool (decide_eq_false hp4))) rfl) rfl ?_
        refine rp_p (wanted_n rfl (yE_of rfl (congrArg Value.bool (decide_eq_false hp4))) rfl) rfl ?_
        refine rp_q rfl rfl rfl (v_pick_f (v := (Value.bool (false))) (congrArg Value.bool (decide_eq_false hp4)) rfl) ?_
        refine rp_end ?_
        refine wt_cond_f rfl ?_
        refine wt_skip ?_
        refine wt_inBlock ?_
        refine wl_region wd_wide ?_
        obtain ⟨hi12, h⟩ := h
        refine rl_q rfl rfl rfl (v_add hE65 rfl hi12) ?_
        refine rl_q rfl rfl rfl (v_move (v := (Value.int .i64 (i2 + 1))) rfl) ?_
        refine rl_end ?_
        obtain ⟨mq, hlt, h⟩ := h
        exact again2 mq _ _ _ ⟨_, h, hM, hE3, hE64, rfl, rB, rB2⟩ hlt
    · replace h := h.2 hp3
      refine wt_cond_f (congrArg Value.bool (decide_eq_false hp3)) ?_
      refine wt_exit rfl ?_
      exact wt_endm0 hM rfl fun wz hz => ⟨rfl, h wz hz⟩

/-- (*sandpile/reduced.state).distances: what its code does. -/
def sh_reduced_state_distances (px : Addr) (w : World) (R : Option Addr → Nat → Nat → World → Prop) : Prop :=
(∀ (g : Nat) (w2 : World), New w g w2 #[(Value.int .i64 (-1))] 3 →
(∃ x : Int, w2.cell? (Addr.add (Addr.add px 0) 0) = some (Value.int .i64 x) ∧
(Calls Try.prog 147 #[(Value.slice (some ⟨g, 0, none⟩) 1 1), (Value.int .i64 x)] w2 fun e w3 => ∃ Ar2 : Option Addr, ∃ lr2 : Nat, ∃ cr2 : Nat, e = .returned (Value.slice Ar2 lr2 cr2) ∧
KpM w2 w3 ∧
(∀ (g2 : Nat) (w4 : World), New w3 g2 w4 #[(Value.slice none 0 0)] 25 →
(∀ w5, w5 = w4.setCell (⟨g2, 0, none⟩ : Addr) (Value.slice Ar2 lr2 cr2) →
(∃ x2 : Int, w5.drew.cell? (Addr.add px 2) = some (Value.int .i64 x2) ∧
(Ix Ar2 lr2 x2 ∧
(Wr w5.drew (ixA Ar2 x2 1) ∧
(ixA Ar2 x2 1).block ≠ g2 ∧
∀ w6, w6 = w5.drew.setCell (ixA Ar2 x2 1) (Value.int .i64 0) →
(∃ x3 : Int, w6.cell? (Addr.add px 2) = some (Value.int .i64 x3) ∧
(∀ (g3 : Nat) (w7 : World), New w6 g3 w7 #[(Value.int .i64 x3)] 3 →
(∀ (g4 : Nat) (w8 : World), New w7 g4 w8 #[(Value.slice none 0 0)] 25 →
(Wr w8 (⟨g4, 0, none⟩ : Addr) ∧
(⟨g4, 0, none⟩ : Addr).block ≠ g2 ∧
∀ w9, w9 = w8.setCell (⟨g4, 0, none⟩ : Addr) (Value.slice (some ⟨g3, 0, none⟩) 1 1) →
(∃ I2 : Nat → World → Prop, (∃ m0, I2 m0 w9) ∧ ∀ (m1 : Nat) (w10 : World), I2 m1 w10 → 
(∃ Ax : Option Addr, ∃ lx : Nat, ∃ cx : Nat, w10.cell? (⟨g4, 0, none⟩ : Addr) = some (Value.slice Ax lx cx) ∧
((0 < ((lx : Nat) : Int) →
(∃ Ax2 : Option Addr, ∃ lx2 : Nat, ∃ cx2 : Nat, w10.cell? (⟨g4, 0, none⟩ : Addr) = some (Value.slice Ax2 lx2 cx2) ∧
(Ix Ax2 lx2 0 ∧
(∃ x4 : Int, w10.cell? (ixA Ax2 0 1) = some (Value.int .i64 x4) ∧
(∀ (g5 : Nat) (w11 : World), New w10 g5 w11 #[(Value.int .i64 0)] 3 →
(g5 ≠ g2 ∧
∀ w12, w12 = w11.setCell (⟨g5, 0, none⟩ : Addr) (Value.int .i64 x4) →
(∃ Ax3 : Option Addr, ∃ lx3 : Nat, ∃ cx3 : Nat, w12.cell? (⟨g4, 0, none⟩ : Addr) = some (Value.slice Ax3 lx3 cx3) ∧
((0 ≤ (1 : Int) ∧ (1 : Int) ≤ ((lx3 : Nat) : Int)) ∧
(Wr w12 (⟨g4, 0, none⟩ : Addr) ∧
(⟨g4, 0, none⟩ : Addr).block ≠ g2 ∧
(⟨g4, 0, none⟩ : Addr).block ≠ g5 ∧
∀ w13, w13 = w12.setCell (⟨g4, 0, none⟩ : Addr) (Value.slice (slA Ax3 cx3 (1 : Int).toNat 1) (lx3 - (1 : Int).toNat) (cx3 - (1 : Int).toNat)) →
(Calls Try.prog 148 #[(Value.pointer (some px)), (Value.int .i64 x4)] w13 fun e w14 => ∃ r : Value, e = .returned r ∧
Kp w13 w14 g2 ∧
Kp w13 w14 g5 ∧
KpM w13 w14 ∧
(∃ (α : Type) (val : α → Array Value) (S : List α → Prop) (Kq : World → World → Prop) (len : Nat) (I3 : List α → World → Prop), IterOf Try.prog r val S Kq len w14 ∧ (∀ x, (val x).size = 2) ∧ Stays w14.heap.size I3 ∧ I3 [] w14 ∧ (∀ pr W, I3 pr W → Kp w14 W g2 ∧ Kp w14 W g5 ∧ True) ∧
(∀ pre (el : α) w15, I3 pre w15 → pre.length < len → ∃ y : Int, ∃ y2 : Int, val el = #[(Value.int .i64 y), (Value.int .i64 y2)] ∧
(Ix Ar2 lr2 y ∧
(∃ x5 : Int, w15.cell? (ixA Ar2 y 1) = some (Value.int .i64 x5) ∧
((x5 < 0 →
(Ix Ar2 lr2 x4 ∧
(∃ x6 : Int, w15.drew.cell? (ixA Ar2 x4 1) = some (Value.int .i64 x6) ∧
(In64 (x6 + 1) ∧
(Ix Ar2 lr2 y ∧
(Wr w15.drew (ixA Ar2 y 1) ∧
(ixA Ar2 y 1).block ≠ g2 ∧
(ixA Ar2 y 1).block ≠ g5 ∧
∀ w17, w17 = w15.drew.setCell (ixA Ar2 y 1) (Value.int .i64 (x6 + 1)) →
(∃ Ax4 : Option Addr, ∃ lx4 : Nat, ∃ cx4 : Nat, w17.cell? (⟨g4, 0, none⟩ : Addr) = some (Value.slice Ax4 lx4 cx4) ∧
(∀ (g6 : Nat) (w18 : World), New w17 g6 w18 #[(Value.int .i64 y)] 3 →
(∃ (B : Nat) (xs2 nw : List Value) (ad : Addr), OwnS w18 B 3 1 Ax4 lx4 cx4 xs2 ∧ (some ⟨g6, 0, none⟩) = some ad ∧ nw.length = 1 * 1 ∧ (∀ j u, nw[j]? = some u → w18.cell? (ad.add j) = some u) ∧ (∀ u ∈ nw, u.oneCell' = true) ∧ lx4 + 1 ≤ maxLen ∧ (lx4 + 1) * 8 ≤ 140737488355328 ∧ B ≤ w18.heap.size ∧
∀ A c w19, OwnS w19 B 3 1 A (lx4 + 1) c (xs2 ++ nw) → w18.grownBy w19 (Option.map Addr.block Ax4) → (Option.map Addr.block A = Option.map Addr.block Ax4 ∨ Option.map Addr.block A = some w18.heap.size) →
Kp w18 w19 g2 ∧
Kp w18 w19 g5 ∧
(Wr w19 (⟨g4, 0, none⟩ : Addr) ∧
(⟨g4, 0, none⟩ : Addr).block ≠ g2 ∧
(⟨g4, 0, none⟩ : Addr).block ≠ g5 ∧
∀ w20, w20 = w19.setCell (⟨g4, 0, none⟩ : Addr) (Value.slice A (lx4 + 1) c) →
(KeepsOthers w15 w20 ∧ Kq w15 w20 ∧ I3 (pre ++ [el]) w20))))))))))) ∧
(¬ (x5 < 0) →
(KeepsOthers w15 w15 ∧ Kq w15 w15 ∧ I3 (pre ++ [el]) w15)))))) ∧
(∀ xs w16, S xs → I3 xs w16 →
KpM w14 w16 ∧
∃ m2, m2 < m1 ∧ I2 m2 w16)))))))))))) ∧
(¬ (0 < ((lx : Nat) : Int)) →
(∀ wz, After w.heap.size w10 wz → R Ar2 lr2 cr2 wz)))))))))))))))))
theorem ok_reduced_state_distances (px : Addr) (w : World) (R : Option Addr → Nat → Nat → World → Prop) (h : sh_reduced_state_distances px w R) :
    Calls Try.prog 111 #[(Value.pointer (some px))] w fun e w' => ∃ Ar : Option Addr, ∃ lr : Nat, ∃ cr : Nat, e = .returned (Value.slice Ar lr cr) ∧ R Ar lr cr w' := by
  unfold sh_reduced_state_distances at h
  refine calls_shm (l := [(Value.pointer (some px))]) Try.func111 rfl Try.ntmps111 (Nat.le_of_ble_eq_true rfl) ?_
  have hM := Marks.nil w
  refine wt_seq ?_
  refine wl_region wd_wide ?_
  refine rl_q rfl rfl rfl (v_assign (v := (Value.slice none 0 0)) rfl) ?_
  refine rl_end ?_
  refine wt_seq ?_
  refine wl_region wd_wide ?_
  refine rl_n rfl rfl rfl rfl (n_bslice (l := [(0, (Value.int .i64 (-1)))]) (cells := [(Value.int .i64 (-1))]) (bp1 rfl) Try.underlying25 info_3 rfl rfl ?_)
  intro g w2 hN
  replace h := h g w2 hN
  replace hM := hM.kp hN.kpm
  clear hN
  refine ⟨Stb.none _, ?_⟩
  refine rl_q rfl rfl rfl (v_move (v := (Value.pointer (some px))) rfl) ?_
  refine rl_q rfl rfl rfl (v_nil rfl) ?_
  refine rl_q rfl rfl rfl (v_faddr rfl Try.underlying137 rfl info_24) ?_
  refine rl_q rfl rfl rfl (v_faddr rfl Try.underlying24 rfl info_3) ?_
  obtain ⟨x, hc, h⟩ := h
  refine rl_q rfl rfl rfl (v_load rfl Try.underlying3 rfl hc) ?_
  refine rl_n rfl rfl rfl rfl (n_call0 rfl (am2 rfl rfl) enter_147 (h.mono ?_))
  rintro _ w3 ⟨Ar2, lr2, cr2, rfl, hkm, h⟩
  replace hM := hM.kp hkm
  refine ⟨_, rfl, Stb.none _, ?_⟩
  refine rl_n rfl rfl rfl rfl (n_alloc info_25 ?_)
  intro g2 w4 hN2
  replace h := h g2 w4 hN2
  replace hM := hM.kp hN2.kpm
  have rB : Row w4 g2 25 1 [(Value.slice none 0 0)] := hN2.row
  clear hN2
  refine ⟨Stb.none _, ?_⟩
  refine rl_n0 rfl rfl rfl (n_store (v := (Value.slice Ar2 lr2 cr2)) rfl rfl rfl info_25 (wr_row rB (i := 0) rfl) ?_)
  intro w5 ew
  replace h := h w5 ew
  replace hM : Marks _ _ w5 := hM.kp (by rw [ew]; exact kpm_set)
  replace rB : Row w5 g2 25 1 [(Value.slice Ar2 lr2 cr2)] := row_set rB 0 (Value.slice Ar2 lr2 cr2) ew
  clear ew
  refine ⟨Stb.none _, ?_⟩
  refine rl_end ?_
  refine wt_seq ?_
  refine wp_draw [0, 1, 2, 3, 4, 5, 6] st0 wd_wide (by kernel_rfl) (by kernel_rfl) ?_
  replace hM := hM.kp (KpM.drew _)
  replace rB := rB.drew
  refine rp_q rfl rfl rfl (v_load rfl Try.underlying25 rfl (Row.cell rB (i := 0) rfl)) ?_
  refine rp_q rfl rfl rfl (v_move (v := (Value.pointer (some px))) rfl) ?_
  refine rp_q rfl rfl rfl (v_nil rfl) ?_
  refine rp_q rfl rfl rfl (v_faddr rfl Try.underlying137 rfl info_3) ?_
  obtain ⟨x2, hc2, h⟩ := h
  refine rp_q rfl rfl rfl (v_load rfl Try.underlying3 rfl hc2) ?_
  obtain ⟨hx, h⟩ := h
  refine rp_q rfl rfl rfl (v_iaddr rfl rfl Try.underlying25 info_3 hx) ?_
  obtain ⟨hw2, h⟩ := h
  obtain ⟨hb, h⟩ := h
  refine rp_n0 rfl rfl rfl (n_store (v := (Value.int .i64 0)) rfl rfl rfl info_3 hw2 ?_)
  intro w6 ew2
  replace h := h w6 ew2
  replace hM : Marks _ _ w6 := hM.kp (by rw [ew2]; exact kpm_set)
  replace rB : Row w6 g2 25 1 [(Value.slice Ar2 lr2 cr2)] := rB.kp (by rw [ew2]; exact kp_set hb)
  clear ew2
  refine ⟨Stb.none _, ?_⟩
  refine rp_end ?_
  refine wt_seq ?_
  refine wl_region wd_wide ?_
  refine rl_q rfl rfl rfl (v_move (v := (Value.pointer (some px))) rfl) ?_
  refine rl_q rfl rfl rfl (v_nil rfl) ?_
  refine rl_q rfl rfl rfl (v_faddr rfl Try.underlying137 rfl info_3) ?_
  obtain ⟨x3, hc3, h⟩ := h
  refine rl_q rfl rfl rfl (v_load rfl Try.underlying3 rfl hc3) ?_
  refine rl_n rfl rfl rfl rfl (n_bslice (l := [(0, (Value.int .i64 x3))]) (cells := [(Value.int .i64 x3)]) (bp1 rfl) Try.underlying25 info_3 rfl rfl ?_)
  intro g3 w7 hN3
  replace h := h g3 w7 hN3
  replace hM := hM.kp hN3.kpm
  replace rB := rB.kp (hN3.kp _)
  clear hN3
  refine ⟨Stb.none _, ?_⟩
  refine rl_n rfl rfl rfl rfl (n_alloc info_25 ?_)
  intro g4 w8 hN4
  replace h := h g4 w8 hN4
  replace hM := hM.kp hN4.kpm
  replace rB := rB.kp (hN4.kp _)
  clear hN4
  refine ⟨Stb.none _, ?_⟩
  obtain ⟨hw3, h⟩ := h
  obtain ⟨hb2, h⟩ := h
  refine rl_n0 rfl rfl rfl (n_store (v := (Value.slice (some ⟨g3, 0, none⟩) 1 1)) rfl rfl rfl info_25 hw3 ?_)
  intro w9 ew3
  replace h := h w9 ew3
  replace hM : Marks _ _ w9 := hM.kp (by rw [ew3]; exact kpm_set)
  replace rB : Row w9 g2 25 1 [(Value.slice Ar2 lr2 cr2)] := rB.kp (by rw [ew3]; exact kp_set hb2)
  clear ew3
  refine ⟨Stb.none _, ?_⟩
  refine rl_end ?_
  refine wt_seq ?_
  refine wt_block ?_
  obtain ⟨I2, ⟨m0, h0⟩, hr⟩ := h
  refine wt_loop (fun m E ds w' => I2 m w' ∧ Marks w.heap.size ds w' ∧ E 0 = (Value.pointer (some px)) ∧ E 3 = (Value.pointer (some (⟨g2, 0, none⟩ : Addr))) ∧ E 4 = (Value.pointer (some (⟨g4, 0, none⟩ : Addr))) ∧ Row w' g2 25 1 [(Value.slice Ar2 lr2 cr2)]) m0 ⟨h0, hM, rfl, rfl, rfl, rB⟩ ?_
  clear h0
  rintro m1 E ds w10 ⟨h, hM, hE0, hE3, hE4, rB⟩ again
  replace h := hr m1 w10 h
  clear hr
  refine wt_seq ?_
  refine wt_seq ?_
  refine wl_region wd_wide ?_
  obtain ⟨Ax, lx, cx, hc4, h⟩ := h
  refine rl_q rfl rfl rfl (v_load hE4 Try.underlying25 rfl hc4) ?_
  refine rl_q rfl rfl rfl (v_len rfl Try.underlying25) ?_
  refine rl_q rfl rfl rfl (v_gtr rfl rfl) ?_
  refine rl_end ?_
  by_cases hp : 0 < ((lx : Nat) : Int)
  · replace h := h.1 hp
    refine wt_cond_t (congrArg Value.bool (decide_eq_true hp)) ?_
    refine wt_skip ?_
    refine wt_block ?_
    refine wt_seq ?_
    refine wl_region wd_wide ?_
    obtain ⟨Ax2, lx2, cx2, hc5, h⟩ := h
    refine rl_q rfl rfl rfl (v_load hE4 Try.underlying25 rfl hc5) ?_
    obtain ⟨hx2, h⟩ := h
    refine rl_q rfl rfl rfl (v_iaddr rfl rfl Try.underlying25 info_3 hx2) ?_
    obtain ⟨x4, hc6, h⟩ := h
    refine rl_q rfl rfl rfl (v_load rfl Try.underlying3 rfl hc6) ?_
    refine rl_n rfl rfl rfl rfl (n_alloc info_3 ?_)
    intro g5 w11 hN5
    replace h := h g5 w11 hN5
    replace hM := hM.kp hN5.kpm
    replace rB := rB.kp (hN5.kp _)
    have rB2 : Row w11 g5 3 1 [(Value.int .i64 0)] := hN5.row
    clear hN5
    refine ⟨Stb.none _, ?_⟩
    obtain ⟨hb3, h⟩ := h
    refine rl_n0 rfl rfl rfl (n_store (v := (Value.int .i64 x4)) rfl rfl rfl info_3 (wr_row rB2 (i := 0) rfl) ?_)
    intro w12 ew4
    replace h := h w12 ew4
    replace hM : Marks _ _ w12 := hM.kp (by rw [ew4]; exact kpm_set)
    replace rB2 : Row w12 g5 3 1 [(Value.int .i64 x4)] := row_set rB2 0 (Value.int .i64 x4) ew4
    replace rB : Row w12 g2 25 1 [(Value.slice Ar2 lr2 cr2)] := rB.kp (by rw [ew4]; exact kp_set hb3)
    clear ew4
    refine ⟨Stb.none _, ?_⟩
    refine rl_end ?_
    refine wt_seq ?_
    refine wl_region wd_wide ?_
    obtain ⟨Ax3, lx3, cx3, hc7, h⟩ := h
    refine rl_q rfl rfl rfl (v_load hE4 Try.underlying25 rfl hc7) ?_
    obtain ⟨hs, h⟩ := h
    refine rl_q rfl rfl rfl (v_slice_l rfl rfl Try.underlying25 info_3 hs) ?_
    obtain ⟨hw5, h⟩ := h
    obtain ⟨hb4, h⟩ := h
    obtain ⟨hb5, h⟩ := h
    refine rl_n0 rfl rfl rfl (n_store (v := (Value.slice (slA Ax3 cx3 (1 : Int).toNat 1) (lx3 - (1 : Int).toNat) (cx3 - (1 : Int).toNat))) hE4 rfl rfl info_25 hw5 ?_)
    intro w13 ew5
    replace h := h w13 ew5
    replace hM : Marks _ _ w13 := hM.kp (by rw [ew5]; exact kpm_set)
    replace rB : Row w13 g2 25 1 [(Value.slice Ar2 lr2 cr2)] := rB.kp (by rw [ew5]; exact kp_set hb4)
    replace rB2 : Row w13 g5 3 1 [(Value.int .i64 x4)] := rB2.kp (by rw [ew5]; exact kp_set hb5)
    clear ew5
    refine ⟨Stb.none _, ?_⟩
    refine rl_end ?_
    refine wt_seq ?_
    refine wl_region wd_wide ?_
    refine rl_q rfl rfl rfl (v_move (v := (Value.pointer (some px))) hE0) ?_
    refine rl_q rfl rfl rfl (v_load rfl Try.underlying3 rfl (Row.cell rB2 (i := 0) rfl)) ?_
    refine rl_n rfl rfl rfl rfl (n_call0 rfl (am2 rfl rfl) enter_148 (h.mono ?_))
    rintro _ w14 ⟨r, rfl, hk, hk2, hkm, h⟩
    replace hM := hM.kp hkm
    replace rB := rB.kp hk
    replace rB2 := rB2.kp hk2
    refine ⟨_, rfl, Stb.none _, ?_⟩
    refine rl_end ?_
    refine wt_block ?_
    obtain ⟨α, val, S, Kq, len, I3, hIt, hsz, hst, h0, hkp, hb, h⟩ := h
    refine wt_range rfl hIt hsz rfl rfl I3 hst h0 ?_ ?_
    · intro ll pre el w15 hIp hlen
      obtain ⟨y, y2, hv, h⟩ := hb pre el w15 hIp hlen
      rw [hv]
      replace rB := rB.kp (hkp pre w15 hIp).1
      replace rB2 := rB2.kp (hkp pre w15 hIp).2.1
      refine wt_block ?_
      refine wt_seq ?_
      refine wl_region (wd_round ll) ?_
      refine rl_q rfl rfl rfl (v_load hE3 Try.underlying25 rfl (Row.cell rB (i := 0) rfl)) ?_
      refine rl_q rfl rfl rfl (v_move (v := (Value.int .i64 y)) rfl) ?_
      obtain ⟨hx3, h⟩ := h
      refine rl_q rfl rfl rfl (v_iaddr rfl rfl Try.underlying25 info_3 hx3) ?_
      obtain ⟨x5, hc8, h⟩ := h
      refine rl_q rfl rfl rfl (v_load rfl Try.underlying3 rfl hc8) ?_
      refine rl_q rfl rfl rfl (v_lss rfl rfl) ?_
      refine rl_end ?_
      by_cases hp2 : x5 < 0
      · replace h := h.1 hp2
        refine wt_cond_t (congrArg Value.bool (decide_eq_true hp2)) ?_
        refine wt_seq ?_
        refine wp_draw [0, 1, 2, 3, 4, 5, 6, 7, 8] st0 (wd_round ll) (by kernel_rfl) (by kernel_rfl) ?_
        replace rB := rB.drew
        replace rB2 := rB2.drew
        refine rp_q rfl rfl rfl (v_load hE3 Try.underlying25 rfl (Row.cell rB (i := 0) rfl)) ?_
        refine rp_q rfl rfl rfl (v_move (v := (Value.int .i64 y)) rfl) ?_
        refine rp_q rfl rfl rfl (v_load hE3 Try.underlying25 rfl (Row.cell rB (i := 0) rfl)) ?_
        refine rp_q rfl rfl rfl (v_load rfl Try.underlying3 rfl (Row.cell rB2 (i := 0) rfl)) ?_
        obtain ⟨hx4, h⟩ := h
        refine rp_q rfl rfl rfl (v_iaddr rfl rfl Try.underlying25 info_3 hx4) ?_
        obtain ⟨x6, hc9, h⟩ := h
        refine rp_q rfl rfl rfl (v_load rfl Try.underlying3 rfl hc9) ?_
        obtain ⟨hi, h⟩ := h
        refine rp_q rfl rfl rfl (v_add rfl rfl hi) ?_
        obtain ⟨hx5, h⟩ := h
        refine rp_q rfl rfl rfl (v_iaddr rfl rfl Try.underlying25 info_3 hx5) ?_
        obtain ⟨hw6, h⟩ := h
        obtain ⟨hb6, h⟩ := h
        obtain ⟨hb7, h⟩ := h
        refine rp_n0 rfl rfl rfl (n_store (v := (Value.int .i64 (x6 + 1))) rfl rfl rfl info_3 hw6 ?_)
        intro w17 ew6
        replace h := h w17 ew6
        replace rB : Row w17 g2 25 1 [(Value.slice Ar2 lr2 cr2)] := rB.kp (by rw [ew6]; exact kp_set hb6)
        replace rB2 : Row w17 g5 3 1 [(Value.int .i64 x4)] := rB2.kp (by rw [ew6]; exact kp_set hb7)
        clear ew6
        refine ⟨Stb.none _, ?_⟩
        refine rp_end ?_
        refine wl_region (wd_round ll) ?_
        obtain ⟨Ax4, lx4, cx4, hc10, h⟩ := h
        refine rl_q rfl rfl rfl (v_load hE4 Try.underlying25 rfl hc10) ?_
        refine rl_q rfl rfl rfl (v_move (v := (Value.int .i64 y)) rfl) ?_
        refine rl_n rfl rfl rfl rfl (n_bslice (l := [(0, (Value.int .i64 y))]) (cells := [(Value.int .i64 y)]) (bp1 rfl) Try.underlying25 info_3 rfl rfl ?_)
        intro g6 w18 hN6
        replace h := h g6 w18 hN6
        replace rB := rB.kp (hN6.kp _)
        replace rB2 := rB2.kp (hN6.kp _)
        clear hN6
        refine ⟨Stb.none _, ?_⟩
        obtain ⟨B, xs2, nw, ad, q1, q2, q3, q4, q5, q6, q7, q8, h⟩ := h
        refine rl_n rfl rfl rfl rfl (n_append rfl rfl Try.underlying25 info_3 rfl ⟨B, xs2, nw, ad, q1, q2, q3, q4, q5, q6, q7, q8, ?_⟩)
        intro A c w19 q9 q10 q11
        replace h := h A c w19 q9 q10 q11
        clear q1 q2 q3 q4 q5 q6 q7 q8 q9 q10 q11
        obtain ⟨hk3, hk4, h⟩ := h
        replace rB := rB.kp hk3
        replace rB2 := rB2.kp hk4
        refine ⟨Stb.none _, ?_⟩
        obtain ⟨hw7, h⟩ := h
        obtain ⟨hb8, h⟩ := h
        obtain ⟨hb9, h⟩ := h
        refine rl_n0 rfl rfl rfl (n_store (v := (Value.slice A (lx4 + 1) c)) hE4 rfl rfl info_25 hw7 ?_)
        intro w20 ew7
        replace h := h w20 ew7
        replace rB : Row w20 g2 25 1 [(Value.slice Ar2 lr2 cr2)] := rB.kp (by rw [ew7]; exact kp_set hb8)
        replace rB2 : Row w20 g5 3 1 [(Value.int .i64 x4)] := rB2.kp (by rw [ew7]; exact kp_set hb9)
        clear ew7
        refine ⟨Stb.none _, ?_⟩
        refine rl_end ?_
        refine wt_inBlock ?_
        exact wt_nil (fun a r => h)
      · replace h := h.2 hp2
        refine wt_cond_f (congrArg Value.bool (decide_eq_false hp2)) ?_
        refine wt_skip ?_
        refine wt_inBlock ?_
        exact wt_nil (fun a r => h)
    · intro D xs w16 hD hS hIp hK
      replace h := h xs w16 hS hIp
      replace rB := rB.kp (hkp xs w16 hIp).1
      replace rB2 := rB2.kp (hkp xs w16 hIp).2.1
      obtain ⟨hkm, h⟩ := h
      replace hM := Marks.push hM hkm hD hK
      refine wt_inBlock ?_
      refine wt_inBlock ?_
      obtain ⟨mq, hlt, h⟩ := h
      exact again mq _ _ _ ⟨h, hM, hE0, hE3, hE4, rB⟩ hlt
  · replace h := h.2 hp
    refine wt_cond_f (congrArg Value.bool (decide_eq_false hp)) ?_
    refine wt_exit rfl ?_
    refine wt_seq ?_
    refine wl_region wd_wide ?_
    refine rl_q rfl rfl rfl (v_load hE3 Try.underlying25 rfl (Row.cell rB (i := 0) rfl)) ?_
    refine rl_q rfl rfl rfl (v_assign (v := (Value.slice Ar2 lr2 cr2)) rfl) ?_
    refine rl_end ?_
    exact wt_retm1 hM rfl rfl fun wz hz => ⟨_, _, _, rfl, h wz hz⟩

/-- (*sandpile/reduced.state).lend: what its code does. -/
def sh_reduced_state_lend (pd : Addr) (w : World) (R : World → Prop) : Prop :=
(Calls Try.prog 111 #[(Value.pointer (some pd))] w fun e w2 => ∃ Ar : Option Addr, ∃ lr : Nat, ∃ cr : Nat, e = .returned (Value.slice Ar lr cr) ∧
(Calls Try.prog 113 #[(Value.slice Ar lr cr)] w2 fun e w3 => ∃ r : Int, e = .returned (Value.int .i64 r) ∧
(∃ I2 : Nat → Int → World → Prop, (∃ m0, I2 m0 r w3) ∧ ∀ (m1 : Nat) (i : Int) (w4 : World), I2 m1 i w4 → 
(∃ J2 : World → Prop, (∀ (w5 : World), J2 w5 → (∃ x : Int, w5.cell? (Addr.add (Addr.add pd 0) 0) = some (Value.int .i64 x) ∧
((0 ≤ x ∧ x ≤ 1000000) ∧
∀ (g : Nat) (w6 : World), New w5 g w6 (Array.replicate x.toNat (Value.bool (false))) 4 →
(∀ (g2 : Nat) (w7 : World), New w6 g2 w7 #[(Value.slice none 0 0)] 102 →
(Wr w7 (⟨g2, 0, none⟩ : Addr) ∧
∀ w8, w8 = w7.setCell (⟨g2, 0, none⟩ : Addr) (Value.slice (some ⟨g, 0, none⟩) x.toNat x.toNat) →
(∃ Ax : Option Addr, ∃ lx : Nat, ∃ cx : Nat, w8.cell? (⟨g2, 0, none⟩ : Addr) = some (Value.slice Ax lx cx) ∧
(∃ I3 : Nat → Int → World → Prop, (∃ m0, I3 m0 0 w8) ∧ ∀ (m2 : Nat) (i2 : Int) (w9 : World), I3 m2 i2 w9 → 
((i2 < ((lx : Nat) : Int) →
(∃ Ax2 : Option Addr, ∃ lx2 : Nat, ∃ cx2 : Nat, w9.drew.cell? (⟨g2, 0, none⟩ : Addr) = some (Value.slice Ax2 lx2 cx2) ∧
(Ix Ar lr i2 ∧
(∃ x2 : Int, w9.drew.cell? (ixA Ar i2 1) = some (Value.int .i64 x2) ∧
(Ix Ax2 lx2 i2 ∧
(Wr w9.drew (ixA Ax2 i2 1) ∧
∀ w10, w10 = w9.drew.setCell (ixA Ax2 i2 1) (Value.bool (decide (x2 < i))) →
(In64 (i2 + 1) ∧
∃ m3, m3 < m2 ∧ I3 m3 (i2 + 1) w10))))))) ∧
(¬ (i2 < ((lx : Nat) : Int)) →
(∃ I4 : Nat → Int → Int → World → Prop, (∃ m0, I4 m0 0 0 w9) ∧ ∀ (m4 : Nat) (i3 : Int) (i4 : Int) (w11 : World), I4 m4 i3 i4 w11 → 
((i4 < ((lr : Nat) : Int) →
(Ix Ar lr i4 ∧
(∃ x3 : Int, w11.cell? (ixA Ar i4 1) = some (Value.int .i64 x3) ∧
(∃ J3 : World → Prop, (∀ (w12 : World), J3 w12 → (Calls Try.prog 114 #[(Value.pointer (some pd)), (Value.int .i64 i4), (Value.func (Fn.func 115) #[] #[(Value.pointer (some (⟨g2, 0, none⟩ : Addr)))])] w12 fun e w13 => ∃ r2 : Int, e = .returned (Value.int .i64 r2) ∧
(∃ Ax3 : Option Addr, ∃ lx3 : Nat, ∃ cx3 : Nat, w13.cell? (Addr.add pd 3) = some (Value.slice Ax3 lx3 cx3) ∧
(Ix Ax3 lx3 i4 ∧
(∃ x4 : Int, w13.cell? (ixA Ax3 i4 1) = some (Value.int .i64 x4) ∧
(In64 (-x4) ∧
(In64 ((-x4) + r2) ∧
(In64 (((-x4) + r2) - 1) ∧
(r2 ≠ 0 ∧
In64 ((((-x4) + r2) - 1).tdiv r2) ∧
(In64 (i4 + 1) ∧
∃ m5, m5 < m4 ∧ I4 m5 (mxF i3 ((((-x4) + r2) - 1).tdiv r2)) (i4 + 1) w13)))))))))) ∧
((x3 = i →
(∃ Ax4 : Option Addr, ∃ lx4 : Nat, ∃ cx4 : Nat, w11.cell? (Addr.add pd 3) = some (Value.slice Ax4 lx4 cx4) ∧
(Ix Ax4 lx4 i4 ∧
(∃ x5 : Int, w11.cell? (ixA Ax4 i4 1) = some (Value.int .i64 x5) ∧
((x5 < 0 →
J3 w11) ∧
(¬ (x5 < 0) →
(In64 (i4 + 1) ∧
∃ m6, m6 < m4 ∧ I4 m6 i3 (i4 + 1) w11))))))) ∧
(¬ (x3 = i) →
(In64 (i4 + 1) ∧
∃ m7, m7 < m4 ∧ I4 m7 i3 (i4 + 1) w11))))))) ∧
(¬ (i4 < ((lr : Nat) : Int)) →
((0 < i3 →
(∃ Ax5 : Option Addr, ∃ lx5 : Nat, ∃ cx5 : Nat, w11.cell? (⟨g2, 0, none⟩ : Addr) = some (Value.slice Ax5 lx5 cx5) ∧
(Calls Try.prog 112 #[(Value.pointer (some pd)), (Value.slice Ax5 lx5 cx5), (Value.int .i64 i3)] w11 fun e w14 => e = .returned (Value.tuple #[]) ∧
(In64 (i - 1) ∧
∃ m8, m8 < m1 ∧ I2 m8 (i - 1) w14)))) ∧
(¬ (0 < i3) →
(In64 (i - 1) ∧
∃ m9, m9 < m1 ∧ I2 m9 (i - 1) w11))))))))))))))) ∧
((0 < i →
(∃ x6 : Int, w4.cell? (Addr.add pd 5) = some (Value.int .i64 x6) ∧
((x6 = 0 →
J2 w4) ∧
(¬ (x6 = 0) →
R w4)))) ∧
(¬ (0 < i) →
R w4))))))
theorem ok_reduced_state_lend (pd : Addr) (w : World) (R : World → Prop) (h : sh_reduced_state_lend pd w R) :
    Calls Try.prog 65 #[(Value.pointer (some pd))] w fun e w' => e = .returned (Value.tuple #[]) ∧ R  w' := by
  unfold sh_reduced_state_lend at h
  refine calls_sh (l := [(Value.pointer (some pd))]) Try.func65 rfl Try.ntmps65 (Nat.le_of_ble_eq_true rfl) ?_
  refine wt_seq ?_
  refine wl_region wd_wide ?_
  refine rl_q rfl rfl rfl (v_move (v := (Value.pointer (some pd))) rfl) ?_
  refine rl_n rfl rfl rfl rfl (n_call0 rfl (am1 rfl) enter_111 (h.mono ?_))
  rintro _ w2 ⟨Ar, lr, cr, rfl, h⟩
  refine ⟨_, rfl, Stb.none _, ?_⟩
  refine rl_q rfl rfl rfl (v_assign (v := (Value.slice Ar lr cr)) rfl) ?_
  refine rl_end ?_
  refine wt_seq ?_
  refine wl_region wd_wide ?_
  refine rl_q rfl rfl rfl (v_move (v := (Value.pointer (some pd))) rfl) ?_
  refine rl_q rfl rfl rfl (v_func (am1 rfl) (am0)) ?_
  refine rl_q rfl rfl rfl (v_assign (v := (Value.func (Fn.func 112) #[(Value.pointer (some pd))] #[])) rfl) ?_
  refine rl_end ?_
  refine wt_seq ?_
  refine wl_region wd_wide ?_
  refine rl_q rfl rfl rfl (v_move (v := (Value.slice Ar lr cr)) rfl) ?_
  refine rl_n rfl rfl rfl rfl (n_call0 rfl (am1 rfl) enter_113 (h.mono ?_))
  rintro _ w3 ⟨r, rfl, h⟩
  refine ⟨_, rfl, Stb.none _, ?_⟩
  refine rl_q rfl rfl rfl (v_assign (v := (Value.int .i64 r)) rfl) ?_
  refine rl_end ?_
  refine wt_block ?_
  obtain ⟨I2, ⟨m0, h0⟩, hr⟩ := h
  refine wt_loop (fun m E ds w' => ∃ i : Int, I2 m i w' ∧ ds = [] ∧ E 0 = (Value.pointer (some pd)) ∧ E 2 = (Value.slice Ar lr cr) ∧ E 3 = (Value.func (Fn.func 112) #[(Value.pointer (some pd))] #[]) ∧ E 4 = (Value.int .i64 i)) m0 ⟨_, h0, rfl, rfl, rfl, rfl, rfl⟩ ?_
  clear h0
  rintro m1 E ds w4 ⟨i, h, rfl, hE0, hE2, hE3, hE4⟩ again
  replace h := hr m1 i w4 h
  clear hr
  refine wt_seq ?_
  refine wt_seq ?_
  obtain ⟨J2, hJ, h⟩ := h
  refine wt_cutT1 (fun E ds w' => J2 w' ∧ ds = [] ∧ E 0 = (Value.pointer (some pd)) ∧ E 2 = (Value.slice Ar lr cr) ∧ E 3 = (Value.func (Fn.func 112) #[(Value.pointer (some pd))] #[]) ∧ E 4 = (Value.int .i64 i)) ?_ ?_
  · rintro E ds w5 ⟨h, rfl, hE0, hE2, hE3, hE4⟩
    replace h := hJ w5 h
    refine wt_seq ?_
    refine wt_block ?_
    refine wt_seq ?_
    refine wl_region wd_wide ?_
    refine rl_q rfl rfl rfl (v_move (v := (Value.pointer (some pd))) hE0) ?_
    refine rl_q rfl rfl rfl (v_nil rfl) ?_
    refine rl_q rfl rfl rfl (v_faddr rfl Try.underlying137 rfl info_24) ?_
    refine rl_q rfl rfl rfl (v_faddr rfl Try.underlying24 rfl info_3) ?_
    obtain ⟨x, hc, h⟩ := h
    refine rl_q rfl rfl rfl (v_load rfl Try.underlying3 rfl hc) ?_
    obtain ⟨hn, h⟩ := h
    refine rl_n rfl rfl rfl rfl (n_make rfl rfl Try.underlying102 info_4 (by decide) rfl hn ?_)
    intro g w6 hN
    replace h := h g w6 hN
    clear hN
    refine ⟨Stb.none _, ?_⟩
    refine rl_n rfl rfl rfl rfl (n_alloc info_102 ?_)
    intro g2 w7 hN2
    replace h := h g2 w7 hN2
    clear hN2
    refine ⟨Stb.none _, ?_⟩
    obtain ⟨hw, h⟩ := h
    refine rl_n0 rfl rfl rfl (n_store (v := (Value.slice (some ⟨g, 0, none⟩) x.toNat x.toNat)) rfl rfl rfl info_102 hw ?_)
    intro w8 ew
    replace h := h w8 ew
    clear ew
    refine ⟨Stb.none _, ?_⟩
    refine rl_end ?_
    refine wt_seq ?_
    refine wt_seq ?_
    refine wl_region wd_wide ?_
    obtain ⟨Ax, lx, cx, hc2, h⟩ := h
    refine rl_q rfl rfl rfl (v_load rfl Try.underlying102 rfl hc2) ?_
    refine rl_q rfl rfl rfl (v_len rfl Try.underlying102) ?_
    refine rl_q rfl rfl rfl (v_move (v := (Value.int .i64 0)) rfl) ?_
    refine rl_end ?_
    refine wt_block ?_
    obtain ⟨I3, ⟨m0, h0⟩, hr⟩ := h
    refine wt_loop (fun m E ds w' => ∃ i2 : Int, I3 m i2 w' ∧ ds = [] ∧ E 0 = (Value.pointer (some pd)) ∧ E 2 = (Value.slice Ar lr cr) ∧ E 3 = (Value.func (Fn.func 112) #[(Value.pointer (some pd))] #[]) ∧ E 4 = (Value.int .i64 i) ∧ E 5 = (Value.pointer (some (⟨g2, 0, none⟩ : Addr))) ∧ E 35 = (Value.int .i64 ((lx : Nat) : Int)) ∧ E 36 = (Value.int .i64 i2)) m0 ⟨_, h0, rfl, hE0, hE2, hE3, hE4, rfl, rfl, rfl⟩ ?_
    clear h0
    rintro m2 E ds w9 ⟨i2, h, rfl, hE0, hE2, hE3, hE4, hE5, hE35, hE36⟩ again2
    replace h := hr m2 i2 w9 h
    clear hr
    refine wt_seq ?_
    refine wl_region wd_wide ?_
    refine rl_q rfl rfl rfl (v_lss hE36 hE35) ?_
    refine rl_end ?_
    refine wt_seq ?_
    by_cases hp : i2 < ((lx : Nat) : Int)
    · replace h := h.1 hp
      refine wt_cond_t (congrArg Value.bool (decide_eq_true hp)) ?_
      refine wt_skip ?_
      refine wt_seq ?_
      refine wt_block ?_
      refine wt_seq ?_
      refine wl_region wd_wide ?_
      refine rl_q rfl rfl rfl (v_move (v := (Value.int .i64 i2)) hE36) ?_
      refine rl_q rfl rfl rfl (v_assign (v := (Value.int .i64 i2)) rfl) ?_
      refine rl_end ?_
      refine wp_draw [0, 1, 2, 3, 4, 5, 6, 7, 8, 9] st0 wd_wide (by kernel_rfl) (by kernel_rfl) ?_
      obtain ⟨Ax2, lx2, cx2, hc3, h⟩ := h
      refine rp_q rfl rfl rfl (v_load hE5 Try.underlying102 rfl hc3) ?_
      refine rp_q rfl rfl rfl (v_move (v := (Value.int .i64 i2)) rfl) ?_
      refine rp_q rfl rfl rfl (v_move (v := (Value.slice Ar lr cr)) hE2) ?_
      refine rp_q rfl rfl rfl (v_move (v := (Value.int .i64 i2)) rfl) ?_
      obtain ⟨hx, h⟩ := h
      refine rp_q rfl rfl rfl (v_iaddr rfl rfl Try.underlying25 info_3 hx) ?_
      obtain ⟨x2, hc4, h⟩ := h
      refine rp_q rfl rfl rfl (v_load rfl Try.underlying3 rfl hc4) ?_
      refine rp_q rfl rfl rfl (v_move (v := (Value.int .i64 i)) hE4) ?_
      refine rp_q rfl rfl rfl (v_lss rfl rfl) ?_
      obtain ⟨hx2, h⟩ := h
      refine rp_q rfl rfl rfl (v_iaddr rfl rfl Try.underlying102 info_4 hx2) ?_
      obtain ⟨hw2, h⟩ := h
      refine rp_n0 rfl rfl rfl (n_store (v := (Value.bool (decide (x2 < i)))) rfl rfl rfl info_4 hw2 ?_)
      intro w10 ew2
      replace h := h w10 ew2
      clear ew2
      refine ⟨Stb.none _, ?_⟩
      refine rp_end ?_
      refine wt_inBlock ?_
      refine wl_region wd_wide ?_
      obtain ⟨hi, h⟩ := h
      refine rl_q rfl rfl rfl (v_add hE36 rfl hi) ?_
      refine rl_q rfl rfl rfl (v_move (v := (Value.int .i64 (i2 + 1))) rfl) ?_
      refine rl_end ?_
      obtain ⟨mq, hlt, h⟩ := h
      exact again2 mq _ _ _ ⟨_, h, rfl, hE0, hE2, hE3, hE4, hE5, hE35, rfl⟩ hlt
    · replace h := h.2 hp
      refine wt_cond_f (congrArg Value.bool (decide_eq_false hp)) ?_
      refine wt_exit rfl ?_
      refine wt_seq ?_
      refine wl_region wd_wide ?_
      refine rl_q rfl rfl rfl (v_assign (v := (Value.int .i64 0)) rfl) ?_
      refine rl_end ?_
      refine wt_seq ?_
      refine wt_seq ?_
      refine wl_region wd_wide ?_
      refine rl_q rfl rfl rfl (v_move (v := (Value.slice Ar lr cr)) hE2) ?_
      refine rl_q rfl rfl rfl (v_len rfl Try.underlying25) ?_
      refine rl_q rfl rfl rfl (v_move (v := (Value.int .i64 0)) rfl) ?_
      refine rl_end ?_
      refine wt_block ?_
      obtain ⟨I4, ⟨m0, h0⟩, hr⟩ := h
      refine wt_loop (fun m E ds w' => ∃ i3 : Int, ∃ i4 : Int, I4 m i3 i4 w' ∧ ds = [] ∧ E 0 = (Value.pointer (some pd)) ∧ E 2 = (Value.slice Ar lr cr) ∧ E 3 = (Value.func (Fn.func 112) #[(Value.pointer (some pd))] #[]) ∧ E 4 = (Value.int .i64 i) ∧ E 5 = (Value.pointer (some (⟨g2, 0, none⟩ : Addr))) ∧ E 7 = (Value.int .i64 i3) ∧ E 49 = (Value.slice Ar lr cr) ∧ E 50 = (Value.int .i64 ((lr : Nat) : Int)) ∧ E 51 = (Value.int .i64 i4)) m0 ⟨_, _, h0, rfl, hE0, hE2, hE3, hE4, hE5, rfl, rfl, rfl, rfl⟩ ?_
      clear h0
      rintro m4 E ds w11 ⟨i3, i4, h, rfl, hE0, hE2, hE3, hE4, hE5, hE7, hE49, hE50, hE51⟩ again3
      replace h := hr m4 i3 i4 w11 h
      clear hr
      refine wt_seq ?_
      refine wl_region wd_wide ?_
      refine rl_q rfl rfl rfl (v_lss hE51 hE50) ?_
      refine rl_end ?_
      refine wt_seq ?_
      by_cases hp2 : i4 < ((lr : Nat) : Int)
      · replace h := h.1 hp2
        refine wt_cond_t (congrArg Value.bool (decide_eq_true hp2)) ?_
        refine wt_skip ?_
        refine wt_seq ?_
        refine wt_block ?_
        refine wt_seq ?_
        refine wl_region wd_wide ?_
        refine rl_q rfl rfl rfl (v_move (v := (Value.int .i64 i4)) hE51) ?_
        obtain ⟨hx3, h⟩ := h
        refine rl_q rfl rfl rfl (v_iaddr hE49 hE51 Try.underlying25 info_3 hx3) ?_
        obtain ⟨x3, hc5, h⟩ := h
        refine rl_q rfl rfl rfl (v_load rfl Try.underlying3 rfl hc5) ?_
        refine rl_q rfl rfl rfl (v_assign (v := (Value.int .i64 i4)) rfl) ?_
        refine rl_q rfl rfl rfl (v_assign (v := (Value.int .i64 x3)) rfl) ?_
        refine rl_end ?_
        refine wt_seq ?_
        obtain ⟨J3, hJ, h⟩ := h
        refine wt_cutA1 (fun E ds w' => J3 w' ∧ ds = [] ∧ E 0 = (Value.pointer (some pd)) ∧ E 2 = (Value.slice Ar lr cr) ∧ E 3 = (Value.func (Fn.func 112) #[(Value.pointer (some pd))] #[]) ∧ E 4 = (Value.int .i64 i) ∧ E 5 = (Value.pointer (some (⟨g2, 0, none⟩ : Addr))) ∧ E 7 = (Value.int .i64 i3) ∧ E 8 = (Value.int .i64 i4) ∧ E 49 = (Value.slice Ar lr cr) ∧ E 50 = (Value.int .i64 ((lr : Nat) : Int)) ∧ E 51 = (Value.int .i64 i4)) ?_ ?_
        · rintro E ds w12 ⟨h, rfl, hE0, hE2, hE3, hE4, hE5, hE7, hE8, hE49, hE50, hE51⟩
          replace h := hJ w12 h
          refine wt_seq ?_
          refine wl_region wd_wide ?_
          refine rl_q rfl rfl rfl (v_move (v := (Value.pointer (some pd))) hE0) ?_
          refine rl_q rfl rfl rfl (v_move (v := (Value.int .i64 i4)) hE8) ?_
          refine rl_q rfl rfl rfl (v_func (am0) (am1 hE5)) ?_
          refine rl_n rfl rfl rfl rfl (n_call0 rfl (am3 rfl rfl rfl) enter_114 (h.mono ?_))
          rintro _ w13 ⟨r2, rfl, h⟩
          refine ⟨_, rfl, Stb.none _, ?_⟩
          refine rl_q rfl rfl rfl (v_assign (v := (Value.int .i64 r2)) rfl) ?_
          refine rl_end ?_
          refine wl_region wd_wide ?_
          refine rl_q rfl rfl rfl (v_move (v := (Value.int .i64 i3)) hE7) ?_
          refine rl_q rfl rfl rfl (v_move (v := (Value.pointer (some pd))) hE0) ?_
          refine rl_q rfl rfl rfl (v_nil rfl) ?_
          refine rl_q rfl rfl rfl (v_faddr rfl Try.underlying137 rfl info_26) ?_
          obtain ⟨Ax3, lx3, cx3, hc6, h⟩ := h
          refine rl_q rfl rfl rfl (v_load rfl Try.underlying26 rfl hc6) ?_
          refine rl_q rfl rfl rfl (v_move (v := (Value.int .i64 i4)) hE8) ?_
          obtain ⟨hx4, h⟩ := h
          refine rl_q rfl rfl rfl (v_iaddr rfl rfl Try.underlying26 info_3 hx4) ?_
          obtain ⟨x4, hc7, h⟩ := h
          refine rl_q rfl rfl rfl (v_load rfl Try.underlying3 rfl hc7) ?_
          obtain ⟨hi2, h⟩ := h
          refine rl_q rfl rfl rfl (v_neg rfl hi2) ?_
          refine rl_q rfl rfl rfl (v_move (v := (Value.int .i64 r2)) rfl) ?_
          obtain ⟨hi3, h⟩ := h
          refine rl_q rfl rfl rfl (v_add rfl rfl hi3) ?_
          obtain ⟨hi4, h⟩ := h
          refine rl_q rfl rfl rfl (v_sub rfl rfl hi4) ?_
          refine rl_q rfl rfl rfl (v_move (v := (Value.int .i64 r2)) rfl) ?_
          obtain ⟨hz, h⟩ := h
          obtain ⟨hi5, h⟩ := h
          refine rl_q rfl rfl rfl (v_quo rfl rfl hz hi5) ?_
          refine rl_q rfl rfl rfl (v_max2 rfl rfl) ?_
          refine rl_q rfl rfl rfl (v_assign (v := (Value.int .i64 (mxF i3 ((((-x4) + r2) - 1).tdiv r2)))) rfl) ?_
          refine rl_end ?_
          refine wt_inBlock ?_
          refine wl_region wd_wide ?_
          obtain ⟨hi6, h⟩ := h
          refine rl_q rfl rfl rfl (v_add hE51 rfl hi6) ?_
          refine rl_q rfl rfl rfl (v_move (v := (Value.int .i64 (i4 + 1))) rfl) ?_
          refine rl_end ?_
          obtain ⟨mq, hlt, h⟩ := h
          exact again3 mq _ _ _ ⟨_, _, h, rfl, hE0, hE2, hE3, hE4, hE5, rfl, hE49, hE50, rfl⟩ hlt
        clear hJ
        intro j2
        refine wl_region wd_wide ?_
        refine rl_q rfl rfl rfl (v_move (v := (Value.int .i64 x3)) rfl) ?_
        refine rl_q rfl rfl rfl (v_move (v := (Value.int .i64 i)) hE4) ?_
        refine rl_q rfl rfl rfl (v_eql rfl rfl) ?_
        refine rl_q rfl rfl rfl (v_move (v := (Value.bool (decide (x3 = i)))) rfl) ?_
        by_cases hp3 : x3 = i
        · replace h := h.1 hp3
          refine rl_q (wanted_g rfl (yE_of rfl (congrArg Value.bool (decide_eq_true hp3)))) rfl rfl (v_move (v := (Value.pointer (some pd))) hE0) ?_
          refine rl_q (wanted_g rfl (yE_of rfl (congrArg Value.bool (decide_eq_true hp3)))) rfl rfl (v_nil rfl) ?_
          refine rl_q (wanted_g rfl (yE_of rfl (congrArg Value.bool (decide_eq_true hp3)))) rfl rfl (v_faddr rfl Try.underlying137 rfl info_26) ?_
          obtain ⟨Ax4, lx4, cx4, hc8, h⟩ := h
          refine rl_q (wanted_g rfl (yE_of rfl (congrArg Value.bool (decide_eq_true hp3)))) rfl rfl (v_load rfl Try.underlying26 rfl hc8) ?_
          refine rl_q (wanted_g rfl (yE_of rfl (congrArg Value.bool (decide_eq_true hp3)))) rfl rfl (v_move (v := (Value.int .i64 i4)) rfl) ?_
          obtain ⟨hx5, h⟩ := h
          refine rl_q (wanted_g rfl (yE_of rfl (congrArg Value.bool (decide_eq_true hp3)))) rfl rfl (v_iaddr rfl rfl Try.underlying26 info_3 hx5) ?_
          obtain ⟨x5, hc9, h⟩ := h
          refine rl_q (wanted_g rfl (yE_of rfl (congrArg Value.bool (decide_eq_true hp3)))) rfl rfl (v_load rfl Try.underlying3 rfl hc9) ?_
          refine rl_q (wanted_g rfl (yE_of rfl (congrArg Value.bool (decide_eq_true hp3)))) rfl rfl (v_lss rfl rfl) ?_
          refine rl_q rfl rfl rfl (v_pick_t (v := (Value.bool (decide (x5 < 0)))) (congrArg Value.bool (decide_eq_true hp3)) rfl) ?_
          refine rl_end ?_
          by_cases hp4 : x5 < 0
          · replace h := h.1 hp4
            refine wt_cond_t (congrArg Value.bool (decide_eq_true hp4)) ?_
            exact j2 _ _ _ ⟨h, rfl, hE0, hE2, hE3, hE4, hE5, hE7, rfl, hE49, hE50, hE51⟩
          · replace h := h.2 hp4
            refine wt_cond_f (congrArg Value.bool (decide_eq_false hp4)) ?_
            refine wt_skip ?_
            refine wt_inBlock ?_
            refine wl_region wd_wide ?_
            obtain ⟨hi7, h⟩ := h
            refine rl_q rfl rfl rfl (v_add hE51 rfl hi7) ?_
            refine rl_q rfl rfl rfl (v_move (v := (Value.int .i64 (i4 + 1))) rfl) ?_
            refine rl_end ?_
            obtain ⟨mq, hlt, h⟩ := h
            exact again3 mq _ _ _ ⟨_, _, h, rfl, hE0, hE2, hE3, hE4, hE5, hE7, hE49, hE50, rfl⟩ hlt
        · replace h := h.2 hp3
          refine rl_p (wanted_n rfl (yE_of rfl (congrArg Value.bool (decide_eq_false hp3))) rfl) rfl ?_
          refine rl_p (wanted_n rfl (yE_of rfl (congrArg Value.bool (decide_eq_false hp3))) rfl) rfl ?_
          refine rl_p (wanted_n rfl (yE_of rfl (congrArg Value.bool (decide_eq_false hp3))) rfl) rfl ?_
          refine rl_p (wanted_n rfl (yE_of rfl (congrArg Value.bool (decide_eq_false hp3))) rfl) rfl ?_
          refine rl_p (wanted_n rfl (yE_of rfl (congrArg Value.bool (decide_eq_false hp3))) rfl) rfl ?_
          refine rl_p (wanted_n rfl (yE_of rfl (congrArg Value.bool (decide_eq_false hp3))) rfl) rfl ?_
          refine rl_p (wanted_n rfl (yE_of rfl (congrArg Value.bool (decide_eq_false hp3))) rfl) rfl ?_
          refine rl_p (wanted_n rfl (yE_of rfl (congrArg Value.bool (decide_eq_false hp3))) rfl) rfl ?_
          refine rl_q rfl rfl rfl (v_pick_f (v := (Value.bool (false))) (congrArg Value.bool (decide_eq_false hp3)) rfl) ?_
          refine rl_end ?_
          refine wt_cond_f rfl ?_
          refine wt_skip ?_
          refine wt_inBlock ?_
          refine wl_region wd_wide ?_
          obtain ⟨hi8, h⟩ := h
          refine rl_q rfl rfl rfl (v_add hE51 rfl hi8) ?_
          refine rl_q rfl rfl rfl (v_move (v := (Value.int .i64 (i4 + 1))) rfl) ?_
          refine rl_end ?_
          obtain ⟨mq, hlt, h⟩ := h
          exact again3 mq _ _ _ ⟨_, _, h, rfl, hE0, hE2, hE3, hE4, hE5, hE7, hE49, hE50, rfl⟩ hlt
      · replace h := h.2 hp2
        refine wt_cond_f (congrArg Value.bool (decide_eq_false hp2)) ?_
        refine wt_exit rfl ?_
        refine wt_seq ?_
        refine wl_region wd_wide ?_
        refine rl_q rfl rfl rfl (v_move (v := (Value.int .i64 i3)) hE7) ?_
        refine rl_q rfl rfl rfl (v_gtr rfl rfl) ?_
        refine rl_end ?_
        by_cases hp5 : 0 < i3
        · replace h := h.1 hp5
          refine wt_cond_t (congrArg Value.bool (decide_eq_true hp5)) ?_
          refine wl_region wd_wide ?_
          refine rl_q rfl rfl rfl (v_move (v := (Value.func (Fn.func 112) #[(Value.pointer (some pd))] #[])) hE3) ?_
          obtain ⟨Ax5, lx5, cx5, hc10, h⟩ := h
          refine rl_q rfl rfl rfl (v_load hE5 Try.underlying102 rfl hc10) ?_
          refine rl_q rfl rfl rfl (v_move (v := (Value.int .i64 i3)) hE7) ?_
          refine rl_n rfl rfl rfl rfl (n_callx (all := [(Value.pointer (some pd)), (Value.slice Ax5 lx5 cx5), (Value.int .i64 i3)]) rfl (am2 rfl rfl) enter_112 rfl (h.mono ?_))
          rintro _ w14 ⟨rfl, h⟩
          refine ⟨_, rfl, Stb.none _, ?_⟩
          refine rl_end ?_
          refine wt_inBlock ?_
          refine wl_region wd_wide ?_
          refine rl_q rfl rfl rfl (v_move (v := (Value.int .i64 i)) hE4) ?_
          obtain ⟨hi9, h⟩ := h
          refine rl_q rfl rfl rfl (v_sub rfl rfl hi9) ?_
          refine rl_q rfl rfl rfl (v_assign (v := (Value.int .i64 (i - 1))) rfl) ?_
          refine rl_end ?_
          obtain ⟨mq, hlt, h⟩ := h
          exact again mq _ _ _ ⟨_, h, rfl, hE0, hE2, hE3, rfl⟩ hlt
        · replace h := h.2 hp5
          refine wt_cond_f (congrArg Value.bool (decide_eq_false hp5)) ?_
          refine wt_skip ?_
          refine wt_inBlock ?_
          refine wl_region wd_wide ?_
          refine rl_q rfl rfl rfl (v_move (v := (Value.int .i64 i)) hE4) ?_
          obtain ⟨hi10, h⟩ := h
          refine rl_q rfl rfl rfl (v_sub rfl rfl hi10) ?_
          refine rl_q rfl rfl rfl (v_assign (v := (Value.int .i64 (i - 1))) rfl) ?_
          refine rl_end ?_
          obtain ⟨mq, hlt, h⟩ := h
          exact again mq _ _ _ ⟨_, h, rfl, hE0, hE2, hE3, rfl⟩ hlt
  clear hJ
  intro j
  refine wl_region wd_wide ?_
  refine rl_q rfl rfl rfl (v_move (v := (Value.int .i64 i)) hE4) ?_
  refine rl_q rfl rfl rfl (v_gtr rfl rfl) ?_
  refine rl_q rfl rfl rfl (v_move (v := (Value.bool (decide (0 < i)))) rfl) ?_
  by_cases hp6 : 0 < i
  · replace h := h.1 hp6
    refine rl_q (wanted_g rfl (yE_of rfl (congrArg Value.bool (decide_eq_true hp6)))) rfl rfl (v_move (v := (Value.pointer (some pd))) hE0) ?_
    refine rl_q (wanted_g rfl (yE_of rfl (congrArg Value.bool (decide_eq_true hp6)))) rfl rfl (v_nil rfl) ?_
    refine rl_q (wanted_g rfl (yE_of rfl (congrArg Value.bool (decide_eq_true hp6)))) rfl rfl (v_faddr rfl Try.underlying137 rfl info_31) ?_
    obtain ⟨x6, hc11, h⟩ := h
    refine rl_q (wanted_g rfl (yE_of rfl (congrArg Value.bool (decide_eq_true hp6)))) rfl rfl (v_load rfl Try.underlying31 rfl hc11) ?_
    refine rl_q (wanted_g rfl (yE_of rfl (congrArg Value.bool (decide_eq_true hp6)))) rfl rfl (v_eql rfl rfl) ?_
    refine rl_q rfl rfl rfl (v_pick_t (v := (Value.bool (decide (x6 = 0)))) (congrArg Value.bool (decide_eq_true hp6)) rfl) ?_
    refine rl_end ?_
    by_cases hp7 : x6 = 0
    · replace h := h.1 hp7
      refine wt_cond_t (congrArg Value.bool (decide_eq_true hp7)) ?_
      refine wt_skip ?_
      exact j _ _ _ ⟨h, rfl, hE0, hE2, hE3, hE4⟩
    · replace h := h.2 hp7
      refine wt_cond_f (congrArg Value.bool (decide_eq_false hp7)) ?_
      refine wt_exit rfl ?_
      exact wt_end0 rfl ⟨rfl, h⟩
  · replace h := h.2 hp6
    refine rl_p (wanted_n rfl (yE_of rfl (congrArg Value.bool (decide_eq_false hp6))) rfl) rfl ?_
    refine rl_p (wanted_n rfl (yE_of rfl (congrArg Value.bool (decide_eq_false hp6))) rfl) rfl ?_
    refine rl_p (wanted_n rfl (yE_of rfl (congrArg Value.bool (decide_eq_false hp6))) rfl) rfl ?_
    refine rl_p (wanted_n rfl (yE_of rfl (congrArg Value.bool (decide_eq_false hp6))) rfl) rfl ?_
    refine rl_p (wanted_n rfl (yE_of rfl (congrArg Value.bool (decide_eq_false hp6))) rfl) rfl ?_
    refine rl_q rfl rfl rfl (v_pick_f (v := (Value.bool (false))) (congrArg Value.bool (decide_eq_false hp6)) rfl) ?_
    refine rl_end ?_
    refine wt_cond_f rfl ?_
    refine wt_exit rfl ?_
    exact wt_end0 rfl ⟨rfl, h⟩

/-- (*sandpile/reduced.state).settle: what its code does. -/
def sh_reduced_state_settle (px : Addr) (w : World) (R : World → Prop) : Prop :=
(∃ I2 : Nat → World → Prop, (∃ m0, I2 m0 w) ∧ ∀ (m1 : Nat) (w2 : World), I2 m1 w2 → 
(∃ x : Int, w2.cell? (Addr.add px 5) = some (Value.int .i64 x) ∧
((x = 0 →
(Calls Try.prog 76 #[(Value.pointer (some px))] w2 fun e w3 => ∃ Ar : Option Addr, ∃ lr : Nat, ∃ cr : Nat, ∃ r : Bool, e = .returned (Value.tuple #[(Value.slice Ar lr cr), (Value.bool (r))]) ∧
(∀ (g : Nat) (w4 : World), New w3 g w4 #[(Value.slice none 0 0)] 102 →
(Wr w4 (⟨g, 0, none⟩ : Addr) ∧
∀ w5, w5 = w4.setCell (⟨g, 0, none⟩ : Addr) (Value.slice Ar lr cr) →
((r = true →
(∃ Ax : Option Addr, ∃ lx : Nat, ∃ cx : Nat, w5.cell? (⟨g, 0, none⟩ : Addr) = some (Value.slice Ax lx cx) ∧
(∃ I3 : Nat → Int → Int → World → Prop, (∃ m0, I3 m0 0 0 w5) ∧ ∀ (m2 : Nat) (times : Int) (i : Int) (w6 : World), I3 m2 times i w6 → 
((i < ((lx : Nat) : Int) →
(Ix Ax lx i ∧
(∃ x2 : Bool, w6.cell? (ixA Ax i 1) = some (Value.bool (x2)) ∧
((x2 = true →
(Calls Try.prog 114 #[(Value.pointer (some px)), (Value.int .i64 i), (Value.func (Fn.func 116) #[] #[(Value.pointer (some (⟨g, 0, none⟩ : Addr)))])] w6 fun e w7 => ∃ r2 : Int, e = .returned (Value.int .i64 r2) ∧
((0 < r2 →
(∃ Ax2 : Option Addr, ∃ lx2 : Nat, ∃ cx2 : Nat, w7.cell? (Addr.add px 3) = some (Value.slice Ax2 lx2 cx2) ∧
(Ix Ax2 lx2 i ∧
(∃ x3 : Int, w7.cell? (ixA Ax2 i 1) = some (Value.int .i64 x3) ∧
(r2 ≠ 0 ∧
In64 (x3.tdiv r2) ∧
((times = 0 →
(In64 (i + 1) ∧
∃ m3, m3 < m2 ∧ I3 m3 (x3.tdiv r2) (i + 1) w7)) ∧
(¬ (times = 0) →
(((x3.tdiv r2) < times →
(In64 (i + 1) ∧
∃ m4, m4 < m2 ∧ I3 m4 (x3.tdiv r2) (i + 1) w7)) ∧
(¬ ((x3.tdiv r2) < times) →
(In64 (i + 1) ∧
∃ m5, m5 < m2 ∧ I3 m5 times (i + 1) w7)))))))))) ∧
(¬ (0 < r2) →
(In64 (i + 1) ∧
∃ m6, m6 < m2 ∧ I3 m6 times (i + 1) w7))))) ∧
(¬ (x2 = true) →
(In64 (i + 1) ∧
∃ m7, m7 < m2 ∧ I3 m7 times (i + 1) w6)))))) ∧
(¬ (i < ((lx : Nat) : Int)) →
(∃ Ax3 : Option Addr, ∃ lx3 : Nat, ∃ cx3 : Nat, w6.cell? (⟨g, 0, none⟩ : Addr) = some (Value.slice Ax3 lx3 cx3) ∧
(Calls Try.prog 112 #[(Value.pointer (some px)), (Value.slice Ax3 lx3 cx3), (Value.int .i64 times)] w6 fun e w8 => e = .returned (Value.tuple #[]) ∧
∃ m8, m8 < m1 ∧ I2 m8 w8))))))) ∧
(¬ (r = true) →
R w5)))))) ∧
(¬ (x = 0) →
R w2))))
theorem ok_reduced_state_settle (px : Addr) (w : World) (R : World → Prop) (h : sh_reduced_state_settle px w R) :
    Calls Try.prog 66 #[(Value.pointer (some px))] w fun e w' => e = .returned (Value.tuple #[]) ∧ R  w' := by
  unfold sh_reduced_state_settle at h
  refine calls_sh (l := [(Value.pointer (some px))]) Try.func66 rfl Try.ntmps66 (Nat.le_of_ble_eq_true rfl) ?_
  refine wt_block ?_
  obtain ⟨I2, ⟨m0, h0⟩, hr⟩ := h
  refine wt_loop (fun m E ds w' => I2 m w' ∧ ds = [] ∧ E 0 = (Value.pointer (some px))) m0 ⟨h0, rfl, rfl⟩ ?_
  clear h0
  rintro m1 E ds w2 ⟨h, rfl, hE0⟩ again
  replace h := hr m1 w2 h
  clear hr
  refine wt_seq ?_
  refine wt_seq ?_
  refine wl_region wd_wide ?_
  refine rl_q rfl rfl rfl (v_move (v := (Value.pointer (some px))) hE0) ?_
  refine rl_q rfl rfl rfl (v_nil rfl) ?_
  refine rl_q rfl rfl rfl (v_faddr rfl Try.underlying137 rfl info_31) ?_
  obtain ⟨x, hc, h⟩ := h
  refine rl_q rfl rfl rfl (v_load rfl Try.underlying31 rfl hc) ?_
  refine rl_q rfl rfl rfl (v_eql rfl rfl) ?_
  refine rl_end ?_
  by_cases hp : x = 0
  · replace h := h.1 hp
    refine wt_cond_t (congrArg Value.bool (decide_eq_true hp)) ?_
    refine wt_skip ?_
    refine wt_block ?_
    refine wt_seq ?_
    refine wl_region wd_wide ?_
    refine rl_q rfl rfl rfl (v_move (v := (Value.pointer (some px))) hE0) ?_
    refine rl_n rfl rfl rfl rfl (n_call0 rfl (am1 rfl) enter_76 (h.mono ?_))
    rintro _ w3 ⟨Ar, lr, cr, r, rfl, h⟩
    refine ⟨_, rfl, Stb.none _, ?_⟩
    refine rl_q rfl rfl rfl (v_move (v := (Value.tuple #[(Value.slice Ar lr cr), (Value.bool (r))])) rfl) ?_
    refine rl_q rfl rfl rfl (v_extract (v := (Value.slice Ar lr cr)) rfl rfl) ?_
    refine rl_q rfl rfl rfl (v_extract (v := (Value.bool (r))) rfl rfl) ?_
    refine rl_n rfl rfl rfl rfl (n_alloc info_102 ?_)
    intro g w4 hN
    replace h := h g w4 hN
    clear hN
    refine ⟨Stb.none _, ?_⟩
    obtain ⟨hw, h⟩ := h
    refine rl_n0 rfl rfl rfl (n_store (v := (Value.slice Ar lr cr)) rfl rfl rfl info_102 hw ?_)
    intro w5 ew
    replace h := h w5 ew
    clear ew
    refine ⟨Stb.none _, ?_⟩
    refine rl_q rfl rfl rfl (v_assign (v := (Value.bool (r))) rfl) ?_
    refine rl_end ?_
    refine wt_seq ?_
    refine wt_seq ?_
    refine wl_region wd_wide ?_
    refine rl_q rfl rfl rfl (v_move (v := (Value.bool (r))) rfl) ?_
    refine rl_q rfl rfl rfl (v_not rfl) ?_
    refine rl_end ?_
    by_cases hp2 : r = true
    · replace h := h.1 hp2
      refine wt_cond_f (congrArg Value.bool (congrArg Bool.not hp2)) ?_
      refine wt_skip ?_
      refine wt_seq ?_
      refine wl_region wd_wide ?_
      refine rl_q rfl rfl rfl (v_assign (v := (Value.int .i64 0)) rfl) ?_
      refine rl_end ?_
      refine wt_seq ?_
      refine wt_seq ?_
      refine wl_region wd_wide ?_
      obtain ⟨Ax, lx, cx, hc2, h⟩ := h
      refine rl_q rfl rfl rfl (v_load rfl Try.underlying102 rfl hc2) ?_
      refine rl_q rfl rfl rfl (v_len rfl Try.underlying102) ?_
      refine rl_q rfl rfl rfl (v_move (v := (Value.int .i64 0)) rfl) ?_
      refine rl_end ?_
      refine wt_block ?_
      obtain ⟨I3, ⟨m0, h0⟩, hr⟩ := h
      refine wt_loop (fun m E ds w' => ∃ times : Int, ∃ i : Int, I3 m times i w' ∧ ds = [] ∧ E 0 = (Value.pointer (some px)) ∧ E 2 = (Value.pointer (some (⟨g, 0, none⟩ : Addr))) ∧ E 4 = (Value.int .i64 times) ∧ E 21 = (Value.slice Ax lx cx) ∧ E 22 = (Value.int .i64 ((lx : Nat) : Int)) ∧ E 23 = (Value.int .i64 i)) m0 ⟨_, _, h0, rfl, hE0, rfl, rfl, rfl, rfl, rfl⟩ ?_
      clear h0
      rintro m2 E ds w6 ⟨times, i, h, rfl, hE0, hE2, hE4, hE21, hE22, hE23⟩ again2
      replace h := hr m2 times i w6 h
      clear hr
      refine wt_seq ?_
      refine wl_region wd_wide ?_
      refine rl_q rfl rfl rfl (v_lss hE23 hE22) ?_
      refine rl_end ?_
      refine wt_seq ?_
      by_cases hp3 : i < ((lx : Nat) : Int)
      · replace h := h.1 hp3
        refine wt_cond_t (congrArg Value.bool (decide_eq_true hp3)) ?_
        refine wt_skip ?_
        refine wt_seq ?_
        refine wt_block ?_
        refine wt_seq ?_
        refine wl_region wd_wide ?_
        refine rl_q rfl rfl rfl (v_move (v := (Value.int .i64 i)) hE23) ?_
        obtain ⟨hx, h⟩ := h
        refine rl_q rfl rfl rfl (v_iaddr hE21 hE23 Try.underlying102 info_4 hx) ?_
        obtain ⟨x2, hc3, h⟩ := h
        refine rl_q rfl rfl rfl (v_load rfl Try.underlying4 rfl hc3) ?_
        refine rl_q rfl rfl rfl (v_assign (v := (Value.int .i64 i)) rfl) ?_
        refine rl_q rfl rfl rfl (v_assign (v := (Value.bool (x2))) rfl) ?_
        refine rl_end ?_
        refine wt_seq ?_
        refine wt_seq ?_
        refine wl_region wd_wide ?_
        refine rl_q rfl rfl rfl (v_move (v := (Value.bool (x2))) rfl) ?_
        refine rl_q rfl rfl rfl (v_not rfl) ?_
        refine rl_end ?_
        by_cases hp4 : x2 = true
        · replace h := h.1 hp4
          refine wt_cond_f (congrArg Value.bool (congrArg Bool.not hp4)) ?_
          refine wt_skip ?_
          refine wt_seq ?_
          refine wl_region wd_wide ?_
          refine rl_q rfl rfl rfl (v_move (v := (Value.pointer (some px))) hE0) ?_
          refine rl_q rfl rfl rfl (v_move (v := (Value.int .i64 i)) rfl) ?_
          refine rl_q rfl rfl rfl (v_func (am0) (am1 hE2)) ?_
          refine rl_n rfl rfl rfl rfl (n_call0 rfl (am3 rfl rfl rfl) enter_114 (h.mono ?_))
          rintro _ w7 ⟨r2, rfl, h⟩
          refine ⟨_, rfl, Stb.none _, ?_⟩
          refine rl_q rfl rfl rfl (v_assign (v := (Value.int .i64 r2)) rfl) ?_
          refine rl_end ?_
          refine wt_seq ?_
          refine wl_region wd_wide ?_
          refine rl_q rfl rfl rfl (v_move (v := (Value.int .i64 r2)) rfl) ?_
          refine rl_q rfl rfl rfl (v_gtr rfl rfl) ?_
          refine rl_end ?_
          by_cases hp5 : 0 < r2
          · replace h := h.1 hp5
            refine wt_cond_t (congrArg Value.bool (decide_eq_true hp5)) ?_
            refine wt_seq ?_
            refine wl_region wd_wide ?_
            refine rl_q rfl rfl rfl (v_move (v := (Value.pointer (some px))) hE0) ?_
            refine rl_q rfl rfl rfl (v_nil rfl) ?_
            refine rl_q rfl rfl rfl (v_faddr rfl Try.underlying137 rfl info_26) ?_
            obtain ⟨Ax2, lx2, cx2, hc4, h⟩ := h
            refine rl_q rfl rfl rfl (v_load rfl Try.underlying26 rfl hc4) ?_
            refine rl_q rfl rfl rfl (v_move (v := (Value.int .i64 i)) rfl) ?_
            obtain ⟨hx2, h⟩ := h
            refine rl_q rfl rfl rfl (v_iaddr rfl rfl Try.underlying26 info_3 hx2) ?_
            obtain ⟨x3, hc5, h⟩ := h
            refine rl_q rfl rfl rfl (v_load rfl Try.underlying3 rfl hc5) ?_
            refine rl_q rfl rfl rfl (v_move (v := (Value.int .i64 r2)) rfl) ?_
            obtain ⟨hz, h⟩ := h
            obtain ⟨hi, h⟩ := h
            refine rl_q rfl rfl rfl (v_quo rfl rfl hz hi) ?_
            refine rl_q rfl rfl rfl (v_assign (v := (Value.int .i64 (x3.tdiv r2))) rfl) ?_
            refine rl_end ?_
            refine wt_seq ?_
            refine wl_region wd_wide ?_
            refine rl_q rfl rfl rfl (v_move (v := (Value.int .i64 times)) hE4) ?_
            refine rl_q rfl rfl rfl (v_eql rfl rfl) ?_
            refine rl_q rfl rfl rfl (v_move (v := (Value.bool (decide (times = 0)))) rfl) ?_
            by_cases hp6 : times = 0
            · replace h := h.1 hp6
              refine rl_p (wanted_n rfl (yE_of rfl (congrArg Value.bool (decide_eq_true hp6))) rfl) rfl ?_
              refine rl_p (wanted_n rfl (yE_of rfl (congrArg Value.bool (decide_eq_true hp6))) rfl) rfl ?_
              refine rl_p (wanted_n rfl (yE_of rfl (congrArg Value.bool (decide_eq_true hp6))) rfl) rfl ?_
              refine rl_q rfl rfl rfl (v_pick_t (v := (Value.bool (true))) (congrArg Value.bool (decide_eq_true hp6)) rfl) ?_
              refine rl_end ?_
              refine wt_cond_t rfl ?_
              refine wl_region wd_wide ?_
              refine rl_q rfl rfl rfl (v_move (v := (Value.int .i64 (x3.tdiv r2))) rfl) ?_
              refine rl_q rfl rfl rfl (v_assign (v := (Value.int .i64 (x3.tdiv r2))) rfl) ?_
              refine rl_end ?_
              refine wt_inBlock ?_
              refine wl_region wd_wide ?_
              obtain ⟨hi2, h⟩ := h
              refine rl_q rfl rfl rfl (v_add hE23 rfl hi2) ?_
              refine rl_q rfl rfl rfl (v_move (v := (Value.int .i64 (i + 1))) rfl) ?_
              refine rl_end ?_
              obtain ⟨mq, hlt, h⟩ := h
              exact again2 mq _ _ _ ⟨_, _, h, rfl, hE0, hE2, rfl, hE21, hE22, rfl⟩ hlt
            · replace h := h.2 hp6
              refine rl_q (wanted_g rfl (yE_of rfl (congrArg Value.bool (decide_eq_false hp6)))) rfl rfl (v_move (v := (Value.int .i64 (x3.tdiv r2))) rfl) ?_
              refine rl_q (wanted_g rfl (yE_of rfl (congrArg Value.bool (decide_eq_false hp6)))) rfl rfl (v_move (v := (Value.int .i64 times)) hE4) ?_
              refine rl_q (wanted_g rfl (yE_of rfl (congrArg Value.bool (decide_eq_false hp6)))) rfl rfl (v_lss rfl rfl) ?_
              refine rl_q rfl rfl rfl (v_pick_f (v := (Value.bool (decide ((x3.tdiv r2) < times)))) (congrArg Value.bool (decide_eq_false hp6)) rfl) ?_
              refine rl_end ?_
              by_cases hp7 : (x3.tdiv r2) < times
              · replace h := h.1 hp7
                refine wt_cond_t (congrArg Value.bool (decide_eq_true hp7)) ?_
                refine wl_region wd_wide ?_
                refine rl_q rfl rfl rfl (v_move (v := (Value.int .i64 (x3.tdiv r2))) rfl) ?_
                refine rl_q rfl rfl rfl (v_assign (v := (Value.int .i64 (x3.tdiv r2))) rfl) ?_
                refine rl_end ?_
                refine wt_inBlock ?_
                refine wl_region wd_wide ?_
                obtain ⟨hi3, h⟩ := h
                refine rl_q rfl rfl rfl (v_add hE23 rfl hi3) ?_
                refine rl_q rfl rfl rfl (v_move (v := (Value.int .i64 (i + 1))) rfl) ?_
                refine rl_end ?_
                obtain ⟨mq, hlt, h⟩ := h
                exact again2 mq _ _ _ ⟨_, _, h, rfl, hE0, hE2, rfl, hE21, hE22, rfl⟩ hlt
              · replace h := h.2 hp7
                refine wt_cond_f (congrArg Value.bool (decide_eq_false hp7)) ?_
                refine wt_skip ?_
                refine wt_inBlock ?_
                refine wl_region wd_wide ?_
                obtain ⟨hi4, h⟩ := h
                refine rl_q rfl rfl rfl (v_add hE23 rfl hi4) ?_
                refine rl_q rfl rfl rfl (v_move (v := (Value.int .i64 (i + 1))) rfl) ?_
                refine rl_end ?_
                obtain ⟨mq, hlt, h⟩ := h
                exact again2 mq _ _ _ ⟨_, _, h, rfl, hE0, hE2, hE4, hE21, hE22, rfl⟩ hlt
          · replace h := h.2 hp5
            refine wt_cond_f (congrArg Value.bool (decide_eq_false hp5)) ?_
            refine wt_skip ?_
            refine wt_inBlock ?_
            refine wl_region wd_wide ?_
            obtain ⟨hi5, h⟩ := h
            refine rl_q rfl rfl rfl (v_add hE23 rfl hi5) ?_
            refine rl_q rfl rfl rfl (v_move (v := (Value.int .i64 (i + 1))) rfl) ?_
            refine rl_end ?_
            obtain ⟨mq, hlt, h⟩ := h
            exact again2 mq _ _ _ ⟨_, _, h, rfl, hE0, hE2, hE4, hE21, hE22, rfl⟩ hlt
        · replace h := h.2 hp4
          refine wt_cond_t (congrArg Value.bool (congrArg Bool.not (Bool.eq_false_iff.2 hp4))) ?_
          refine wt_exit rfl ?_
          refine wl_region wd_wide ?_
          obtain ⟨hi6, h⟩ := h
          refine rl_q rfl rfl rfl (v_add hE23 rfl hi6) ?_
          refine rl_q rfl rfl rfl (v_move (v := (Value.int .i64 (i + 1))) rfl) ?_
          refine rl_end ?_
          obtain ⟨mq, hlt, h⟩ := h
          exact again2 mq _ _ _ ⟨_, _, h, rfl, hE0, hE2, hE4, hE21, hE22, rfl⟩ hlt
      · replace h := h.2 hp3
        refine wt_cond_f (congrArg Value.bool (decide_eq_false hp3)) ?_
        refine wt_exit rfl ?_
        refine wl_region wd_wide ?_
        refine rl_q rfl rfl rfl (v_move (v := (Value.pointer (some px))) hE0) ?_
        obtain ⟨Ax3, lx3, cx3, hc6, h⟩ := h
        refine rl_q rfl rfl rfl (v_load hE2 Try.underlying102 rfl hc6) ?_
        refine rl_q rfl rfl rfl (v_move (v := (Value.int .i64 times)) hE4) ?_
        refine rl_n rfl rfl rfl rfl (n_call0 rfl (am3 rfl rfl rfl) enter_112 (h.mono ?_))
        rintro _ w8 ⟨rfl, h⟩
        refine ⟨_, rfl, Stb.none _, ?_⟩
        refine rl_end ?_
        refine wt_inBlock ?_
        obtain ⟨mq, hlt, h⟩ := h
        exact again mq _ _ _ ⟨h, rfl, hE0⟩ hlt
    · replace h := h.2 hp2
      refine wt_cond_t (congrArg Value.bool (congrArg Bool.not (Bool.eq_false_iff.2 hp2))) ?_
      exact wt_ret0 rfl ⟨rfl, h⟩
  · replace h := h.2 hp
    refine wt_cond_f (congrArg Value.bool (decide_eq_false hp)) ?_
    refine wt_exit rfl ?_
    exact wt_end0 rfl ⟨rfl, h⟩

/-- (*sandpile/reduced.state).result: what its code does. -/
def sh_reduced_state_result (pd : Addr) (w : World) (R : Option Addr → Nat → Nat → Option Addr → Nat → Nat → Int → World → Prop) : Prop :=
(∃ x : Int, w.cell? (Addr.add pd 5) = some (Value.int .i64 x) ∧
((x = 0 →
(∃ Ax : Option Addr, ∃ lx : Nat, ∃ cx : Nat, w.drew.cell? (Addr.add pd 4) = some (Value.slice Ax lx cx) ∧
(∃ x2 : Int, w.drew.cell? (Addr.add pd 2) = some (Value.int .i64 x2) ∧
(Ix Ax lx x2 ∧
(∃ x3 : Int, w.drew.cell? (ixA Ax x2 1) = some (Value.int .i64 x3) ∧
(∃ Ax2 : Option Addr, ∃ lx2 : Nat, ∃ cx2 : Nat, w.drew.cell? (Addr.add pd 4) = some (Value.slice Ax2 lx2 cx2) ∧
(∃ I2 : Nat → Int → World → Prop, (∃ m0, I2 m0 0 w.drew) ∧ ∀ (m1 : Nat) (i : Int) (w2 : World), I2 m1 i w2 → 
((i < ((lx2 : Nat) : Int) →
(∃ Ax3 : Option Addr, ∃ lx3 : Nat, ∃ cx3 : Nat, w2.cell? (Addr.add pd 4) = some (Value.slice Ax3 lx3 cx3) ∧
(Ix Ax3 lx3 i ∧
(∃ x4 : Int, w2.cell? (ixA Ax3 i 1) = some (Value.int .i64 x4) ∧
(In64 (x4 - x3) ∧
(Ix Ax3 lx3 i ∧
(Wr w2 (ixA Ax3 i 1) ∧
∀ w3, w3 = w2.setCell (ixA Ax3 i 1) (Value.int .i64 (x4 - x3)) →
(In64 (i + 1) ∧
∃ m2, m2 < m1 ∧ I2 m2 (i + 1) w3)))))))) ∧
(¬ (i < ((lx2 : Nat) : Int)) →
(∃ J2 : World → Prop, (∀ (w4 : World), J2 w4 → (∃ Ax4 : Option Addr, ∃ lx4 : Nat, ∃ cx4 : Nat, w4.drew.cell? (Addr.add pd 3) = some (Value.slice Ax4 lx4 cx4) ∧
(∃ Ax5 : Option Addr, ∃ lx5 : Nat, ∃ cx5 : Nat, w4.drew.cell? (Addr.add pd 4) = some (Value.slice Ax5 lx5 cx5) ∧
R Ax4 lx4 cx4 Ax5 lx5 cx5 0 w4.drew))) ∧
(∃ Ax6 : Option Addr, ∃ lx6 : Nat, ∃ cx6 : Nat, w2.drew.cell? (Addr.add pd 3) = some (Value.slice Ax6 lx6 cx6) ∧
(∃ x5 : Int, w2.drew.cell? (Addr.add (Addr.add pd 0) 0) = some (Value.int .i64 x5) ∧
(Calls Try.prog 84 #[(Value.slice Ax6 lx6 cx6), (Value.int .i64 x5)] w2.drew fun e w5 => ∃ r2 : Int, e = .returned (Value.int .i64 r2) ∧
((r2 = 0 →
(∃ Ax7 : Option Addr, ∃ lx7 : Nat, ∃ cx7 : Nat, w5.cell? (Addr.add pd 4) = some (Value.slice Ax7 lx7 cx7) ∧
(∃ x6 : Int, w5.cell? (Addr.add (Addr.add pd 0) 0) = some (Value.int .i64 x6) ∧
(Calls Try.prog 84 #[(Value.slice Ax7 lx7 cx7), (Value.int .i64 x6)] w5 fun e w6 => ∃ r3 : Int, e = .returned (Value.int .i64 r3) ∧
((r3 = 0 →
J2 w6) ∧
(¬ (r3 = 0) →
R none 0 0 none 0 0 11 w6)))))) ∧
(¬ (r2 = 0) →
R none 0 0 none 0 0 11 w5))))))))))))))) ∧
(¬ (x = 0) →
(∃ x7 : Int, w.drew.cell? (Addr.add pd 5) = some (Value.int .i64 x7) ∧
R none 0 0 none 0 0 x7 w.drew))))
theorem ok_reduced_state_result (pd : Addr) (w : World) (R : Option Addr → Nat → Nat → Option Addr → Nat → Nat → Int → World → Prop) (h : sh_reduced_state_result pd w R) :
    Calls Try.prog 67 #[(Value.pointer (some pd))] w fun e w' => ∃ Ar : Option Addr, ∃ lr : Nat, ∃ cr : Nat, ∃ Ar2 : Option Addr, ∃ lr2 : Nat, ∃ cr2 : Nat, ∃ r : Int, e = .returned (Value.tuple #[(Value.slice Ar lr cr), (Value.slice Ar2 lr2 cr2), (Value.int .i64 r)]) ∧ R Ar lr cr Ar2 lr2 cr2 r w' := by
  unfold sh_reduced_state_result at h
  refine calls_sh (l := [(Value.pointer (some pd))]) Try.func67 rfl Try.ntmps67 (Nat.le_of_ble_eq_true rfl) ?_
  refine wt_seq ?_
  refine wl_region wd_wide ?_
  refine rl_q rfl rfl rfl (v_assign (v := (Value.slice none 0 0)) rfl) ?_
  refine rl_q rfl rfl rfl (v_assign (v := (Value.slice none 0 0)) rfl) ?_
  refine rl_q rfl rfl rfl (v_assign (v := (Value.int .i64 0)) rfl) ?_
  refine rl_end ?_
  refine wt_seq ?_
  refine wt_seq ?_
  refine wl_region wd_wide ?_
  refine rl_q rfl rfl rfl (v_move (v := (Value.pointer (some pd))) rfl) ?_
  refine rl_q rfl rfl rfl (v_nil rfl) ?_
  refine rl_q rfl rfl rfl (v_faddr rfl Try.underlying137 rfl info_31) ?_
  obtain ⟨x, hc, h⟩ := h
  refine rl_q rfl rfl rfl (v_load rfl Try.underlying31 rfl hc) ?_
  refine rl_q rfl rfl rfl (v_neq rfl rfl) ?_
  refine rl_end ?_
  by_cases hp : x = 0
  · replace h := h.1 hp
    refine wt_cond_f (congrArg Value.bool (congrArg Bool.not (decide_eq_true hp))) ?_
    refine wt_skip ?_
    refine wt_seq ?_
    refine wp_draw [0, 1, 2, 3, 4, 5, 6, 7, 8, 9, 10] st0 wd_wide (by kernel_rfl) (by kernel_rfl) ?_
    refine rp_q rfl rfl rfl (v_move (v := (Value.pointer (some pd))) rfl) ?_
    refine rp_q rfl rfl rfl (v_nil rfl) ?_
    refine rp_q rfl rfl rfl (v_faddr rfl Try.underlying137 rfl info_30) ?_
    obtain ⟨Ax, lx, cx, hc2, h⟩ := h
    refine rp_q rfl rfl rfl (v_load rfl Try.underlying30 rfl hc2) ?_
    refine rp_q rfl rfl rfl (v_move (v := (Value.pointer (some pd))) rfl) ?_
    refine rp_q rfl rfl rfl (v_nil rfl) ?_
    refine rp_q rfl rfl rfl (v_faddr rfl Try.underlying137 rfl info_3) ?_
    obtain ⟨x2, hc3, h⟩ := h
    refine rp_q rfl rfl rfl (v_load rfl Try.underlying3 rfl hc3) ?_
    obtain ⟨hx, h⟩ := h
    refine rp_q rfl rfl rfl (v_iaddr rfl rfl Try.underlying30 info_3 hx) ?_
    obtain ⟨x3, hc4, h⟩ := h
    refine rp_q rfl rfl rfl (v_load rfl Try.underlying3 rfl hc4) ?_
    refine rp_q rfl rfl rfl (v_assign (v := (Value.int .i64 x3)) rfl) ?_
    refine rp_end ?_
    refine wt_seq ?_
    refine wt_seq ?_
    refine wl_region wd_wide ?_
    refine rl_q rfl rfl rfl (v_move (v := (Value.pointer (some pd))) rfl) ?_
    refine rl_q rfl rfl rfl (v_nil rfl) ?_
    refine rl_q rfl rfl rfl (v_faddr rfl Try.underlying137 rfl info_30) ?_
    obtain ⟨Ax2, lx2, cx2, hc5, h⟩ := h
    refine rl_q rfl rfl rfl (v_load rfl Try.underlying30 rfl hc5) ?_
    refine rl_q rfl rfl rfl (v_len rfl Try.underlying30) ?_
    refine rl_q rfl rfl rfl (v_move (v := (Value.int .i64 0)) rfl) ?_
    refine rl_end ?_
    refine wt_block ?_
    obtain ⟨I2, ⟨m0, h0⟩, hr⟩ := h
    refine wt_loop (fun m E ds w' => ∃ i : Int, I2 m i w' ∧ ds = [] ∧ E 0 = (Value.pointer (some pd)) ∧ E 5 = (Value.int .i64 x3) ∧ E 30 = (Value.int .i64 ((lx2 : Nat) : Int)) ∧ E 31 = (Value.int .i64 i)) m0 ⟨_, h0, rfl, rfl, rfl, rfl, rfl⟩ ?_
    clear h0
    rintro m1 E ds w2 ⟨i, h, rfl, hE0, hE5, hE30, hE31⟩ again
    replace h := hr m1 i w2 h
    clear hr
    refine wt_seq ?_
    refine wl_region wd_wide ?_
    refine rl_q rfl rfl rfl (v_lss hE31 hE30) ?_
    refine rl_end ?_
    refine wt_seq ?_
    by_cases hp2 : i < ((lx2 : Nat) : Int)
    · replace h := h.1 hp2
      refine wt_cond_t (congrArg Value.bool (decide_eq_true hp2)) ?_
      refine wt_skip ?_
      refine wt_seq ?_
      refine wt_block ?_
      refine wt_seq ?_
      refine wl_region wd_wide ?_
      refine rl_q rfl rfl rfl (v_move (v := (Value.int .i64 i)) hE31) ?_
      refine rl_q rfl rfl rfl (v_assign (v := (Value.int .i64 i)) rfl) ?_
      refine rl_end ?_
      refine wl_region wd_wide ?_
      refine rl_q rfl rfl rfl (v_move (v := (Value.pointer (some pd))) hE0) ?_
      refine rl_q rfl rfl rfl (v_nil rfl) ?_
      refine rl_q rfl rfl rfl (v_faddr rfl Try.underlying137 rfl info_30) ?_
      obtain ⟨Ax3, lx3, cx3, hc6, h⟩ := h
      refine rl_q rfl rfl rfl (v_load rfl Try.underlying30 rfl hc6) ?_
      refine rl_q rfl rfl rfl (v_move (v := (Value.int .i64 i)) rfl) ?_
      obtain ⟨hx2, h⟩ := h
      refine rl_q rfl rfl rfl (v_iaddr rfl rfl Try.underlying30 info_3 hx2) ?_
      obtain ⟨x4, hc7, h⟩ := h
      refine rl_q rfl rfl rfl (v_load rfl Try.underlying3 rfl hc7) ?_
      refine rl_q rfl rfl rfl (v_move (v := (Value.int .i64 x3)) hE5) ?_
      obtain ⟨hi, h⟩ := h
      refine rl_q rfl rfl rfl (v_sub rfl rfl hi) ?_
      obtain ⟨hx3, h⟩ := h
      refine rl_q rfl rfl rfl (v_iaddr rfl rfl Try.underlying30 info_3 hx3) ?_
      obtain ⟨hw, h⟩ := h
      refine rl_n0 rfl rfl rfl (n_store (v := (Value.int .i64 (x4 - x3))) rfl rfl rfl info_3 hw ?_)
      intro w3 ew
      replace h := h w3 ew
      clear ew
      refine ⟨Stb.none _, ?_⟩
      refine rl_end ?_
      refine wt_inBlock ?_
      refine wl_region wd_wide ?_
      obtain ⟨hi2, h⟩ := h
      refine rl_q rfl rfl rfl (v_add hE31 rfl hi2) ?_
      refine rl_q rfl rfl rfl (v_move (v := (Value.int .i64 (i + 1))) rfl) ?_
      refine rl_end ?_
      obtain ⟨mq, hlt, h⟩ := h
      exact again mq _ _ _ ⟨_, h, rfl, hE0, hE5, hE30, rfl⟩ hlt
    · replace h := h.2 hp2
      refine wt_cond_f (congrArg Value.bool (decide_eq_false hp2)) ?_
      refine wt_exit rfl ?_
      refine wt_seq ?_
      refine wt_seq ?_
      obtain ⟨J2, hJ, h⟩ := h
      refine wt_cutT1 (fun E ds w' => J2 w' ∧ ds = [] ∧ E 0 = (Value.pointer (some pd))) ?_ ?_
      · rintro E ds w4 ⟨h, rfl, hE0⟩
        replace h := hJ w4 h
        refine wt_seq ?_
        refine wp_draw [0, 1, 2, 3, 4, 5, 6, 7, 8, 9, 10] st0 wd_wide (by kernel_rfl) (by kernel_rfl) ?_
        refine rp_q rfl rfl rfl (v_move (v := (Value.pointer (some pd))) hE0) ?_
        refine rp_q rfl rfl rfl (v_nil rfl) ?_
        refine rp_q rfl rfl rfl (v_faddr rfl Try.underlying137 rfl info_26) ?_
        obtain ⟨Ax4, lx4, cx4, hc8, h⟩ := h
        refine rp_q rfl rfl rfl (v_load rfl Try.underlying26 rfl hc8) ?_
        refine rp_q rfl rfl rfl (v_move (v := (Value.pointer (some pd))) hE0) ?_
        refine rp_q rfl rfl rfl (v_nil rfl) ?_
        refine rp_q rfl rfl rfl (v_faddr rfl Try.underlying137 rfl info_30) ?_
        obtain ⟨Ax5, lx5, cx5, hc9, h⟩ := h
        refine rp_q rfl rfl rfl (v_load rfl Try.underlying30 rfl hc9) ?_
        refine rp_q rfl rfl rfl (v_assign (v := (Value.slice Ax4 lx4 cx4)) rfl) ?_
        refine rp_q rfl rfl rfl (v_assign (v := (Value.slice Ax5 lx5 cx5)) rfl) ?_
        refine rp_q rfl rfl rfl (v_assign (v := (Value.int .i64 0)) rfl) ?_
        refine rp_end ?_
        exact wt_ret3 rfl rfl rfl rfl ⟨_, _, _, _, _, _, _, rfl, h⟩
      clear hJ
      intro j
      refine wp_draw [0, 1, 2, 3, 4, 5, 6, 7, 8, 9, 10, 11, 12, 13, 14, 15, 16, 17, 18, 19, 20, 21, 22, 23] st0 wd_wide (by kernel_rfl) (by kernel_rfl) ?_
      refine rp_q rfl rfl rfl (v_move (v := (Value.pointer (some pd))) hE0) ?_
      refine rp_q rfl rfl rfl (v_nil rfl) ?_
      refine rp_q rfl rfl rfl (v_faddr rfl Try.underlying137 rfl info_26) ?_
      obtain ⟨Ax6, lx6, cx6, hc10, h⟩ := h
      refine rp_q rfl rfl rfl (v_load rfl Try.underlying26 rfl hc10) ?_
      refine rp_q rfl rfl rfl (v_move (v := (Value.pointer (some pd))) hE0) ?_
      refine rp_q rfl rfl rfl (v_nil rfl) ?_
      refine rp_q rfl rfl rfl (v_faddr rfl Try.underlying137 rfl info_24) ?_
      refine rp_q rfl rfl rfl (v_faddr rfl Try.underlying24 rfl info_3) ?_
      obtain ⟨x5, hc11, h⟩ := h
      refine rp_q rfl rfl rfl (v_load rfl Try.underlying3 rfl hc11) ?_
      refine rp_n rfl rfl rfl rfl (n_call0 rfl (am2 rfl rfl) enter_84 (h.mono ?_))
      rintro _ w5 ⟨r2, rfl, h⟩
      refine ⟨_, rfl, Stb.none _, ?_⟩
      refine rp_q rfl rfl rfl (v_neq rfl rfl) ?_
      refine rp_q rfl rfl rfl (v_move (v := (Value.bool (!(decide (r2 = 0))))) rfl) ?_
      by_cases hp3 : r2 = 0
      · replace h := h.1 hp3
        refine rp_q (wanted_g rfl (yE_of rfl (congrArg Value.bool (congrArg Bool.not (decide_eq_true hp3))))) rfl rfl (v_move (v := (Value.pointer (some pd))) hE0) ?_
        refine rp_q (wanted_g rfl (yE_of rfl (congrArg Value.bool (congrArg Bool.not (decide_eq_true hp3))))) rfl rfl (v_nil rfl) ?_
        refine rp_q (wanted_g rfl (yE_of rfl (congrArg Value.bool (congrArg Bool.not (decide_eq_true hp3))))) rfl rfl (v_faddr rfl Try.underlying137 rfl info_30) ?_
        obtain ⟨Ax7, lx7, cx7, hc12, h⟩ := h
        refine rp_q (wanted_g rfl (yE_of rfl (congrArg Value.bool (congrArg Bool.not (decide_eq_true hp3))))) rfl rfl (v_load rfl Try.underlying30 rfl hc12) ?_
        refine rp_q (wanted_g rfl (yE_of rfl (congrArg Value.bool (congrArg Bool.not (decide_eq_true hp3))))) rfl rfl (v_move (v := (Value.pointer (some pd))) hE0) ?_
        refine rp_q (wanted_g rfl (yE_of rfl (congrArg Value.bool (congrArg Bool.not (decide_eq_true hp3))))) rfl rfl (v_nil rfl) ?_
        refine rp_q (wanted_g rfl (yE_of rfl (congrArg Value.bool (congrArg Bool.not (decide_eq_true hp3))))) rfl rfl (v_faddr rfl Try.underlying137 rfl info_24) ?_
        refine rp_q (wanted_g rfl (yE_of rfl (congrArg Value.bool (congrArg Bool.not (decide_eq_true hp3))))) rfl rfl (v_faddr rfl Try.underlying24 rfl info_3) ?_
        obtain ⟨x6, hc13, h⟩ := h
        refine rp_q (wanted_g rfl (yE_of rfl (congrArg Value.bool (congrArg Bool.not (decide_eq_true hp3))))) rfl rfl (v_load rfl Try.underlying3 rfl hc13) ?_
        refine rp_n (wanted_g rfl (yE_of rfl (congrArg Value.bool (congrArg Bool.not (decide_eq_true hp3))))) rfl rfl rfl (n_call0 rfl (am2 rfl rfl) enter_84 (h.mono ?_))
        rintro _ w6 ⟨r3, rfl, h⟩
        refine ⟨_, rfl, Stb.none _, ?_⟩
        refine rp_q (wanted_g rfl (yE_of rfl (congrArg Value.bool (congrArg Bool.not (decide_eq_true hp3))))) rfl rfl (v_neq rfl rfl) ?_
        refine rp_q rfl rfl rfl (v_pick_f (v := (Value.bool (!(decide (r3 = 0))))) (congrArg Value.bool (congrArg Bool.not (decide_eq_true hp3))) rfl) ?_
        refine rp_end ?_
        by_cases hp4 : r3 = 0
        · replace h := h.1 hp4
          refine wt_cond_f (congrArg Value.bool (congrArg Bool.not (decide_eq_true hp4))) ?_
          refine wt_skip ?_
          exact j _ _ _ ⟨h, rfl, hE0⟩
        · replace h := h.2 hp4
          refine wt_cond_t (congrArg Value.bool (congrArg Bool.not (decide_eq_false hp4))) ?_
          refine wt_seq ?_
          refine wl_region wd_wide ?_
          refine rl_q rfl rfl rfl (v_assign (v := (Value.slice none 0 0)) rfl) ?_
          refine rl_q rfl rfl rfl (v_assign (v := (Value.slice none 0 0)) rfl) ?_
          refine rl_q rfl rfl rfl (v_assign (v := (Value.int .i64 11)) rfl) ?_
          refine rl_end ?_
          exact wt_ret3 rfl rfl rfl rfl ⟨_, _, _, _, _, _, _, rfl, h⟩
      · replace h := h.2 hp3
        refine rp_p (wanted_n rfl (yE_of rfl (congrArg Value.bool (congrArg Bool.not (decide_eq_false hp3)))) rfl) rfl ?_
        refine rp_p (wanted_n rfl (yE_of rfl (congrArg Value.bool (congrArg Bool.not (decide_eq_false hp3)))) rfl) rfl ?_
        refine rp_p (wanted_n rfl (yE_of rfl (congrArg Value.bool (congrArg Bool.not (decide_eq_false hp3)))) rfl) rfl ?_
        refine rp_p (wanted_n rfl (yE_of rfl (congrArg Value.bool (congrArg Bool.not (decide_eq_false hp3)))) rfl) rfl ?_
        refine rp_p (wanted_n rfl (yE_of rfl (congrArg Value.bool (congrArg Bool.not (decide_eq_false hp3)))) rfl) rfl ?_
        refine rp_p (wanted_n rfl (yE_of rfl (congrArg Value.bool (congrArg Bool.not (decide_eq_false hp3)))) rfl) rfl ?_
        refine rp_p (wanted_n rfl (yE_of rfl (congrArg Value.bool (congrArg Bool.not (decide_eq_false hp3)))) rfl) rfl ?_
        refine rp_p (wanted_n rfl (yE_of rfl (congrArg Value.bool (congrArg Bool.not (decide_eq_false hp3)))) rfl) rfl ?_
        refine rp_p (wanted_n rfl (yE_of rfl (congrArg Value.bool (congrArg Bool.not (decide_eq_false hp3)))) rfl) rfl ?_
        refine rp_p (wanted_n rfl (yE_of rfl (congrArg Value.bool (congrArg Bool.not (decide_eq_false hp3)))) rfl) rfl ?_
        refine rp_p (wanted_n rfl (yE_of rfl (congrArg Value.bool (congrArg Bool.not (decide_eq_false hp3)))) rfl) rfl ?_
        refine rp_q rfl rfl rfl (v_pick_t (v := (Value.bool (true))) (congrArg Value.bool (congrArg Bool.not (decide_eq_false hp3))) rfl) ?_
        refine rp_end ?_
        refine wt_cond_t rfl ?_
        refine wt_seq ?_
        refine wl_region wd_wide ?_
        refine rl_q rfl rfl rfl (v_assign (v := (Value.slice none 0 0)) rfl) ?_
        refine rl_q rfl rfl rfl (v_assign (v := (Value.slice none 0 0)) rfl) ?_
        refine rl_q rfl rfl rfl (v_assign (v := (Value.int .i64 11)) rfl) ?_
        refine rl_end ?_
        exact wt_ret3 rfl rfl rfl rfl ⟨_, _, _, _, _, _, _, rfl, h⟩
  · replace h := h.2 hp
    refine wt_cond_t (congrArg Value.bool (congrArg Bool.not (decide_eq_false hp))) ?_
    refine wt_seq ?_
    refine wp_draw [0, 1, 2, 3, 4, 5, 6] st0 wd_wide (by kernel_rfl) (by kernel_rfl) ?_
    refine rp_q rfl rfl rfl (v_move (v := (Value.pointer (some pd))) rfl) ?_
    refine rp_q rfl rfl rfl (v_nil rfl) ?_
    refine rp_q rfl rfl rfl (v_faddr rfl Try.underlying137 rfl info_31) ?_
    obtain ⟨x7, hc14, h⟩ := h
    refine rp_q rfl rfl rfl (v_load rfl Try.underlying31 rfl hc14) ?_
    refine rp_q rfl rfl rfl (v_assign (v := (Value.slice none 0 0)) rfl) ?_
    refine rp_q rfl rfl rfl (v_assign (v := (Value.slice none 0 0)) rfl) ?_
    refine rp_q rfl rfl rfl (v_assign (v := (Value.int .i64 x7)) rfl) ?_
    refine rp_end ?_
    exact wt_ret3 rfl rfl rfl rfl ⟨_, _, _, _, _, _, _, rfl, h⟩

/-- (*sandpile/reduced.state).lend$1: what its code does. -/
def sh_reduced_state_lend_1 (u : Int) (cap : Addr) (w : World) (R : Bool → World → Prop) : Prop :=
(∃ Ax : Option Addr, ∃ lx : Nat, ∃ cx : Nat, w.cell? cap = some (Value.slice Ax lx cx) ∧
(Ix Ax lx u ∧
(∃ x : Bool, w.cell? (ixA Ax u 1) = some (Value.bool (x)) ∧
R x w)))
theorem ok_reduced_state_lend_1 (u : Int) (cap : Addr) (w : World) (R : Bool → World → Prop) (h : sh_reduced_state_lend_1 u cap w R) :
    Calls Try.prog 115 #[(Value.int .i64 u), (Value.pointer (some cap))] w fun e w' => ∃ r : Bool, e = .returned (Value.bool (r)) ∧ R r w' := by
  unfold sh_reduced_state_lend_1 at h
  refine calls_sh (l := [(Value.int .i64 u), (Value.pointer (some cap))]) Try.func115 rfl Try.ntmps115 (Nat.le_of_ble_eq_true rfl) ?_
  refine wt_seq ?_
  refine wl_region wd_wide ?_
  refine rl_q rfl rfl rfl (v_assign (v := (Value.bool (false))) rfl) ?_
  refine rl_end ?_
  refine wt_seq ?_
  refine wl_region wd_wide ?_
  obtain ⟨Ax, lx, cx, hc, h⟩ := h
  refine rl_q rfl rfl rfl (v_load rfl Try.underlying102 rfl hc) ?_
  refine rl_q rfl rfl rfl (v_move (v := (Value.int .i64 u)) rfl) ?_
  obtain ⟨hx, h⟩ := h
  refine rl_q rfl rfl rfl (v_iaddr rfl rfl Try.underlying102 info_4 hx) ?_
  obtain ⟨x, hc2, h⟩ := h
  refine rl_q rfl rfl rfl (v_load rfl Try.underlying4 rfl hc2) ?_
  refine rl_q rfl rfl rfl (v_assign (v := (Value.bool (x))) rfl) ?_
  refine rl_end ?_
  exact wt_ret1 rfl rfl ⟨_, rfl, h⟩

/-- (*sandpile/reduced.state).settle$1: what its code does. -/
def sh_reduced_state_settle_1 (u : Int) (cap : Addr) (w : World) (R : Bool → World → Prop) : Prop :=
(∃ Ax : Option Addr, ∃ lx : Nat, ∃ cx : Nat, w.cell? cap = some (Value.slice Ax lx cx) ∧
(Ix Ax lx u ∧
(∃ x : Bool, w.cell? (ixA Ax u 1) = some (Value.bool (x)) ∧
R (!(x)) w)))
theorem ok_reduced_state_settle_1 (u : Int) (cap : Addr) (w : World) (R : Bool → World → Prop) (h : sh_reduced_state_settle_1 u cap w R) :
    Calls Try.prog 116 #[(Value.int .i64 u), (Value.pointer (some cap))] w fun e w' => ∃ r : Bool, e = .returned (Value.bool (r)) ∧ R r w' := by
  unfold sh_reduced_state_settle_1 at h
  refine calls_sh (l := [(Value.int .i64 u), (Value.pointer (some cap))]) Try.func116 rfl Try.ntmps116 (Nat.le_of_ble_eq_true rfl) ?_
  refine wt_seq ?_
  refine wl_region wd_wide ?_
  refine rl_q rfl rfl rfl (v_assign (v := (Value.bool (false))) rfl) ?_
  refine rl_end ?_
  refine wt_seq ?_
  refine wl_region wd_wide ?_
  obtain ⟨Ax, lx, cx, hc, h⟩ := h
  refine rl_q rfl rfl rfl (v_load rfl Try.underlying102 rfl hc) ?_
  refine rl_q rfl rfl rfl (v_move (v := (Value.int .i64 u)) rfl) ?_
  obtain ⟨hx, h⟩ := h
  refine rl_q rfl rfl rfl (v_iaddr rfl rfl Try.underlying102 info_4 hx) ?_
  obtain ⟨x, hc2, h⟩ := h
  refine rl_q rfl rfl rfl (v_load rfl Try.underlying4 rfl hc2) ?_
  refine rl_q rfl rfl rfl (v_not rfl) ?_
  refine rl_q rfl rfl rfl (v_assign (v := (Value.bool (!(x)))) rfl) ?_
  refine rl_end ?_
  exact wt_ret1 rfl rfl ⟨_, rfl, h⟩

/-- sandpile/reduced.Reduce: what its code does. -/
def sh_reduced_Reduce (g : Int) (Ag : Option Addr) (lg : Nat) (cg : Nat) (q : Int) (Ad : Option Addr) (ld : Nat) (cd : Nat) (w : World) (R : Option Addr → Nat → Nat → Option Addr → Nat → Nat → Int → World → Prop) : Prop :=
(∀ (g2 : Nat) (w2 : World), New w g2 w2 #[(Value.int .i64 g), (Value.slice Ag lg cg)] 24 →
(Calls Try.prog 63 #[(Value.agg #[(Value.int .i64 g), (Value.slice Ag lg cg)]), (Value.int .i64 q), (Value.slice Ad ld cd)] w2 fun e w3 => ∃ r2 : Int, e = .returned (Value.int .i64 r2) ∧
Kp w2 w3 g2 ∧
((r2 = 0 →
(Calls Try.prog 64 #[(Value.agg #[(Value.int .i64 g), (Value.slice Ag lg cg)]), (Value.int .i64 q), (Value.slice Ad ld cd)] w3 fun e w4 => ∃ pr : Addr, e = .returned (Value.pointer (some pr)) ∧
Kp w3 w4 g2 ∧
(Calls Try.prog 65 #[(Value.pointer (some pr))] w4 fun e w5 => e = .returned (Value.tuple #[]) ∧
Kp w4 w5 g2 ∧
(Calls Try.prog 66 #[(Value.pointer (some pr))] w5 fun e w6 => e = .returned (Value.tuple #[]) ∧
Kp w5 w6 g2 ∧
(Calls Try.prog 67 #[(Value.pointer (some pr))] w6 fun e w7 => ∃ Ar3 : Option Addr, ∃ lr3 : Nat, ∃ cr3 : Nat, ∃ Ar4 : Option Addr, ∃ lr4 : Nat, ∃ cr4 : Nat, ∃ r3 : Int, e = .returned (Value.tuple #[(Value.slice Ar3 lr3 cr3), (Value.slice Ar4 lr4 cr4), (Value.int .i64 r3)]) ∧
Kp w6 w7 g2 ∧
R Ar3 lr3 cr3 Ar4 lr4 cr4 r3 w7))))) ∧
(¬ (r2 = 0) →
R none 0 0 none 0 0 r2 w3))))
theorem ok_reduced_Reduce (g : Int) (Ag : Option Addr) (lg : Nat) (cg : Nat) (q : Int) (Ad : Option Addr) (ld : Nat) (cd : Nat) (w : World) (R : Option Addr → Nat → Nat → Option Addr → Nat → Nat → Int → World → Prop) (h : sh_reduced_Reduce g Ag lg cg q Ad ld cd w R) :
    Calls Try.prog 17 #[(Value.agg #[(Value.int .i64 g), (Value.slice Ag lg cg)]), (Value.int .i64 q), (Value.slice Ad ld cd)] w fun e w' => ∃ Ar : Option Addr, ∃ lr : Nat, ∃ cr : Nat, ∃ Ar2 : Option Addr, ∃ lr2 : Nat, ∃ cr2 : Nat, ∃ r : Int, e = .returned (Value.tuple #[(Value.slice Ar lr cr), (Value.slice Ar2 lr2 cr2), (Value.int .i64 r)]) ∧ R Ar lr cr Ar2 lr2 cr2 r w' := by
  unfold sh_reduced_Reduce at h
  refine calls_sh (l := [(Value.agg #[(Value.int .i64 g), (Value.slice Ag lg cg)]), (Value.int .i64 q), (Value.slice Ad ld cd)]) Try.func17 rfl Try.ntmps17 (Nat.le_of_ble_eq_true rfl) ?_
  refine wt_seq ?_
  refine wl_region wd_wide ?_
  refine rl_n rfl rfl rfl rfl (n_box (v := (Value.agg #[(Value.int .i64 g), (Value.slice Ag lg cg)])) rfl ?_)
  intro g2 w2 hN
  replace h := h g2 w2 hN
  have rB : Row w2 g2 24 2 [(Value.int .i64 g), (Value.slice Ag lg cg)] := hN.row
  clear hN
  refine ⟨Stb.none _, ?_⟩
  refine rl_q rfl rfl rfl (v_assign (v := (Value.slice none 0 0)) rfl) ?_
  refine rl_q rfl rfl rfl (v_assign (v := (Value.slice none 0 0)) rfl) ?_
  refine rl_q rfl rfl rfl (v_assign (v := (Value.int .i64 0)) rfl) ?_
  refine rl_end ?_
  refine wt_seq ?_
  refine wt_seq ?_
  refine wl_region wd_wide ?_
  refine rl_q rfl rfl rfl (v_loadn (vs := [(Value.int .i64 g), (Value.slice Ag lg cg)]) rfl Try.underlying24 rfl info_24 ⟨Row.cell rB (i := 0) rfl, Row.cell rB (i := 1) rfl, trivial⟩) ?_
  refine rl_q rfl rfl rfl (v_move (v := (Value.int .i64 q)) rfl) ?_
  refine rl_q rfl rfl rfl (v_move (v := (Value.slice Ad ld cd)) rfl) ?_
  refine rl_n rfl rfl rfl rfl (n_call0 rfl (am3 rfl rfl rfl) enter_63 (h.mono ?_))
  rintro _ w3 ⟨r2, rfl, hk, h⟩
  replace rB := rB.kp hk
  refine ⟨_, rfl, Stb.none _, ?_⟩
  refine rl_q rfl rfl rfl (v_assign (v := (Value.int .i64 r2)) rfl) ?_
  refine rl_end ?_
  refine wt_seq ?_
  refine wl_region wd_wide ?_
  refine rl_q rfl rfl rfl (v_move (v := (Value.int .i64 r2)) rfl) ?_
  refine rl_q rfl rfl rfl (v_neq rfl rfl) ?_
  refine rl_end ?_
  by_cases hp : r2 = 0
  · replace h := h.1 hp
    refine wt_cond_f (congrArg Value.bool (congrArg Bool.not (decide_eq_true hp))) ?_
    refine wt_skip ?_
    refine wt_seq ?_
    refine wl_region wd_wide ?_
    refine rl_q rfl rfl rfl (v_loadn (vs := [(Value.int .i64 g), (Value.slice Ag lg cg)]) rfl Try.underlying24 rfl info_24 ⟨Row.cell rB (i := 0) rfl, Row.cell rB (i := 1) rfl, trivial⟩) ?_
    refine rl_q rfl rfl rfl (v_move (v := (Value.int .i64 q)) rfl) ?_
    refine rl_q rfl rfl rfl (v_move (v := (Value.slice Ad ld cd)) rfl) ?_
    refine rl_n rfl rfl rfl rfl (n_call0 rfl (am3 rfl rfl rfl) enter_64 (h.mono ?_))
    rintro _ w4 ⟨pr, rfl, hk2, h⟩
    replace rB := rB.kp hk2
    refine ⟨_, rfl, Stb.none _, ?_⟩
    refine rl_q rfl rfl rfl (v_assign (v := (Value.pointer (some pr))) rfl) ?_
    refine rl_end ?_
    refine wt_seq ?_
    refine wl_region wd_wide ?_
    refine rl_q rfl rfl rfl (v_move (v := (Value.pointer (some pr))) rfl) ?_
    refine rl_n rfl rfl rfl rfl (n_call0 rfl (am1 rfl) enter_65 (h.mono ?_))
    rintro _ w5 ⟨rfl, hk3, h⟩
    replace rB := rB.kp hk3
    refine ⟨_, rfl, Stb.none _, ?_⟩
    refine rl_end ?_
    refine wt_seq ?_
    refine wl_region wd_wide ?_
    refine rl_q rfl rfl rfl (v_move (v := (Value.pointer (some pr))) rfl) ?_
    refine rl_n rfl rfl rfl rfl (n_call0 rfl (am1 rfl) enter_66 (h.mono ?_))
    rintro _ w6 ⟨rfl, hk4, h⟩
    replace rB := rB.kp hk4
    refine ⟨_, rfl, Stb.none _, ?_⟩
    refine rl_end ?_
    refine wt_seq ?_
    refine wl_region wd_wide ?_
    refine rl_q rfl rfl rfl (v_move (v := (Value.pointer (some pr))) rfl) ?_
    refine rl_n rfl rfl rfl rfl (n_call0 rfl (am1 rfl) enter_67 (h.mono ?_))
    rintro _ w7 ⟨Ar3, lr3, cr3, Ar4, lr4, cr4, r3, rfl, hk5, h⟩
    replace rB := rB.kp hk5
    refine ⟨_, rfl, Stb.none _, ?_⟩
    refine rl_q rfl rfl rfl (v_extract (v := (Value.slice Ar3 lr3 cr3)) rfl rfl) ?_
    refine rl_q rfl rfl rfl (v_extract (v := (Value.slice Ar4 lr4 cr4)) rfl rfl) ?_
    refine rl_q rfl rfl rfl (v_extract (v := (Value.int .i64 r3)) rfl rfl) ?_
    refine rl_q rfl rfl rfl (v_assign (v := (Value.slice Ar3 lr3 cr3)) rfl) ?_
    refine rl_q rfl rfl rfl (v_assign (v := (Value.slice Ar4 lr4 cr4)) rfl) ?_
    refine rl_q rfl rfl rfl (v_assign (v := (Value.int .i64 r3)) rfl) ?_
    refine rl_end ?_
    exact wt_ret3 rfl rfl rfl rfl ⟨_, _, _, _, _, _, _, rfl, h⟩
  · replace h := h.2 hp
    refine wt_cond_t (congrArg Value.bool (congrArg Bool.not (decide_eq_false hp))) ?_
    refine wt_seq ?_
    refine wl_region wd_wide ?_
    refine rl_q rfl rfl rfl (v_move (v := (Value.int .i64 r2)) rfl) ?_
    refine rl_q rfl rfl rfl (v_assign (v := (Value.slice none 0 0)) rfl) ?_
    refine rl_q rfl rfl rfl (v_assign (v := (Value.slice none 0 0)) rfl) ?_
    refine rl_q rfl rfl rfl (v_assign (v := (Value.int .i64 r2)) rfl) ?_
    refine rl_end ?_
    exact wt_ret3 rfl rfl rfl rfl ⟨_, _, _, _, _, _, _, rfl, h⟩

/-- sandpile/reduced.Lend: what its code does. -/
def sh_reduced_Lend (g : Int) (Ag : Option Addr) (lg : Nat) (cg : Nat) (q : Int) (Ad : Option Addr) (ld : Nat) (cd : Nat) (w : World) (R : Option Addr → Nat → Nat → Option Addr → Nat → Nat → Int → World → Prop) : Prop :=
(∀ (g2 : Nat) (w2 : World), New w g2 w2 #[(Value.int .i64 g), (Value.slice Ag lg cg)] 24 →
(Calls Try.prog 63 #[(Value.agg #[(Value.int .i64 g), (Value.slice Ag lg cg)]), (Value.int .i64 q), (Value.slice Ad ld cd)] w2 fun e w3 => ∃ r2 : Int, e = .returned (Value.int .i64 r2) ∧
Kp w2 w3 g2 ∧
((r2 = 0 →
(Calls Try.prog 64 #[(Value.agg #[(Value.int .i64 g), (Value.slice Ag lg cg)]), (Value.int .i64 q), (Value.slice Ad ld cd)] w3 fun e w4 => ∃ pr : Addr, e = .returned (Value.pointer (some pr)) ∧
Kp w3 w4 g2 ∧
(Calls Try.prog 65 #[(Value.pointer (some pr))] w4 fun e w5 => e = .returned (Value.tuple #[]) ∧
Kp w4 w5 g2 ∧
(Calls Try.prog 67 #[(Value.pointer (some pr))] w5 fun e w6 => ∃ Ar3 : Option Addr, ∃ lr3 : Nat, ∃ cr3 : Nat, ∃ Ar4 : Option Addr, ∃ lr4 : Nat, ∃ cr4 : Nat, ∃ r3 : Int, e = .returned (Value.tuple #[(Value.slice Ar3 lr3 cr3), (Value.slice Ar4 lr4 cr4), (Value.int .i64 r3)]) ∧
Kp w5 w6 g2 ∧
R Ar3 lr3 cr3 Ar4 lr4 cr4 r3 w6)))) ∧
(¬ (r2 = 0) →
R none 0 0 none 0 0 r2 w3))))
theorem ok_reduced_Lend (g : Int) (Ag : Option Addr) (lg : Nat) (cg : Nat) (q : Int) (Ad : Option Addr) (ld : Nat) (cd : Nat) (w : World) (R : Option Addr → Nat → Nat → Option Addr → Nat → Nat → Int → World → Prop) (h : sh_reduced_Lend g Ag lg cg q Ad ld cd w R) :
    Calls Try.prog 23 #[(Value.agg #[(Value.int .i64 g), (Value.slice Ag lg cg)]), (Value.int .i64 q), (Value.slice Ad ld cd)] w fun e w' => ∃ Ar : Option Addr, ∃ lr : Nat, ∃ cr : Nat, ∃ Ar2 : Option Addr, ∃ lr2 : Nat, ∃ cr2 : Nat, ∃ r : Int, e = .returned (Value.tuple #[(Value.slice Ar lr cr), (Value.slice Ar2 lr2 cr2), (Value.int .i64 r)]) ∧ R Ar lr cr Ar2 lr2 cr2 r w' := by
  unfold sh_reduced_Lend at h
  refine calls_sh (l := [(Value.agg #[(Value.int .i64 g), (Value.slice Ag lg cg)]), (Value.int .i64 q), (Value.slice Ad ld cd)]) Try.func23 rfl Try.ntmps23 (Nat.le_of_ble_eq_true rfl) ?_
  refine wt_seq ?_
  refine wl_region wd_wide ?_
  refine rl_n rfl rfl rfl rfl (n_box (v := (Value.agg #[(Value.int .i64 g), (Value.slice Ag lg cg)])) rfl ?_)
  intro g2 w2 hN
  replace h := h g2 w2 hN
  have rB : Row w2 g2 24 2 [(Value.int .i64 g), (Value.slice Ag lg cg)] := hN.row
  clear hN
  refine ⟨Stb.none _, ?_⟩
  refine rl_q rfl rfl rfl (v_assign (v := (Value.slice none 0 0)) rfl) ?_
  refine rl_q rfl rfl rfl (v_assign (v := (Value.slice none 0 0)) rfl) ?_
  refine rl_q rfl rfl rfl (v_assign (v := (Value.int .i64 0)) rfl) ?_
  refine rl_end ?_
  refine wt_seq ?_
  refine wt_seq ?_
  refine wl_region wd_wide ?_
  refine rl_q rfl rfl rfl (v_loadn (vs := [(Value.int .i64 g), (Value.slice Ag lg cg)]) rfl Try.underlying24 rfl info_24 ⟨Row.cell rB (i := 0) rfl, Row.cell rB (i := 1) rfl, trivial⟩) ?_
  refine rl_q rfl rfl rfl (v_move (v := (Value.int .i64 q)) rfl) ?_
  refine rl_q rfl rfl rfl (v_move (v := (Value.slice Ad ld cd)) rfl) ?_
  refine rl_n rfl rfl rfl rfl (n_call0 rfl (am3 rfl rfl rfl) enter_63 (h.mono ?_))
  rintro _ w3 ⟨r2, rfl, hk, h⟩
  replace rB := rB.kp hk
  refine ⟨_, rfl, Stb.none _, ?_⟩
  refine rl_q rfl rfl rfl (v_assign (v := (Value.int .i64 r2)) rfl) ?_
  refine rl_end ?_
  refine wt_seq ?_
  refine wl_region wd_wide ?_
  refine rl_q rfl rfl rfl (v_move (v := (Value.int .i64 r2)) rfl) ?_
  refine rl_q rfl rfl rfl (v_neq rfl rfl) ?_
  refine rl_end ?_
  by_cases hp : r2 = 0
  · replace h := h.1 hp
    refine wt_cond_f (congrArg Value.bool (congrArg Bool.not (decide_eq_true hp))) ?_
    refine wt_skip ?_
    refine wt_seq ?_
    refine wl_region wd_wide ?_
    refine rl_q rfl rfl rfl (v_loadn (vs := [(Value.int .i64 g), (Value.slice Ag lg cg)]) rfl Try.underlying24 rfl info_24 ⟨Row.cell rB (i := 0) rfl, Row.cell rB (i := 1) rfl, trivial⟩) ?_
    refine rl_q rfl rfl rfl (v_move (v := (Value.int .i64 q)) rfl) ?_
    refine rl_q rfl rfl rfl (v_move (v := (Value.slice Ad ld cd)) rfl) ?_
    refine rl_n rfl rfl rfl rfl (n_call0 rfl (am3 rfl rfl rfl) enter_64 (h.mono ?_))
    rintro _ w4 ⟨pr, rfl, hk2, h⟩
    replace rB := rB.kp hk2
    refine ⟨_, rfl, Stb.none _, ?_⟩
    refine rl_q rfl rfl rfl (v_assign (v := (Value.pointer (some pr))) rfl) ?_
    refine rl_end ?_
    refine wt_seq ?_
    refine wl_region wd_wide ?_
    refine rl_q rfl rfl rfl (v_move (v := (Value.pointer (some pr))) rfl) ?_
    refine rl_n rfl rfl rfl rfl (n_call0 rfl (am1 rfl) enter_65 (h.mono ?_))
    rintro _ w5 ⟨rfl, hk3, h⟩
    replace rB := rB.kp hk3
    refine ⟨_, rfl, Stb.none _, ?_⟩
    refine rl_end ?_
    refine wt_seq ?_
    refine wl_region wd_wide ?_
    refine rl_q rfl rfl rfl (v_move (v := (Value.pointer (some pr))) rfl) ?_
    refine rl_n rfl rfl rfl rfl (n_call0 rfl (am1 rfl) enter_67 (h.mono ?_))
    rintro _ w6 ⟨Ar3, lr3, cr3, Ar4, lr4, cr4, r3, rfl, hk4, h⟩
    replace rB := rB.kp hk4
    refine ⟨_, rfl, Stb.none _, ?_⟩
    refine rl_q rfl rfl rfl (v_extract (v := (Value.slice Ar3 lr3 cr3)) rfl rfl) ?_
    refine rl_q rfl rfl rfl (v_extract (v := (Value.slice Ar4 lr4 cr4)) rfl rfl) ?_
    refine rl_q rfl rfl rfl (v_extract (v := (Value.int .i64 r3)) rfl rfl) ?_
    refine rl_q rfl rfl rfl (v_assign (v := (Value.slice Ar3 lr3 cr3)) rfl) ?_
    refine rl_q rfl rfl rfl (v_assign (v := (Value.slice Ar4 lr4 cr4)) rfl) ?_
    refine rl_q rfl rfl rfl (v_assign (v := (Value.int .i64 r3)) rfl) ?_
    refine rl_end ?_
    exact wt_ret3 rfl rfl rfl rfl ⟨_, _, _, _, _, _, _, rfl, h⟩
  · replace h := h.2 hp
    refine wt_cond_t (congrArg Value.bool (congrArg Bool.not (decide_eq_false hp))) ?_
    refine wt_seq ?_
    refine wl_region wd_wide ?_
    refine rl_q rfl rfl rfl (v_move (v := (Value.int .i64 r2)) rfl) ?_
    refine rl_q rfl rfl rfl (v_assign (v := (Value.slice none 0 0)) rfl) ?_
    refine rl_q rfl rfl rfl (v_assign (v := (Value.slice none 0 0)) rfl) ?_
    refine rl_q rfl rfl rfl (v_assign (v := (Value.int .i64 r2)) rfl) ?_
    refine rl_end ?_
    exact wt_ret3 rfl rfl rfl rfl ⟨_, _, _, _, _, _, _, rfl, h⟩

/-- sandpile/reduced.IsReduced: what its code does. -/
def sh_reduced_IsReduced (g : Int) (Ag : Option Addr) (lg : Nat) (cg : Nat) (q : Int) (Ad : Option Addr) (ld : Nat) (cd : Nat) (w : World) (R : Bool → Int → World → Prop) : Prop :=
(∀ (g2 : Nat) (w2 : World), New w g2 w2 #[(Value.int .i64 g), (Value.slice Ag lg cg)] 24 →
(Calls Try.prog 63 #[(Value.agg #[(Value.int .i64 g), (Value.slice Ag lg cg)]), (Value.int .i64 q), (Value.slice Ad ld cd)] w2 fun e w3 => ∃ r3 : Int, e = .returned (Value.int .i64 r3) ∧
Kp w2 w3 g2 ∧
((r3 = 0 →
(Calls Try.prog 75 #[(Value.int .i64 q), (Value.slice Ad ld cd)] w3 fun e w4 => ∃ r4 : Bool, e = .returned (Value.bool (r4)) ∧
Kp w3 w4 g2 ∧
((r4 = true →
R false 0 w4) ∧
(¬ (r4 = true) →
(Calls Try.prog 64 #[(Value.agg #[(Value.int .i64 g), (Value.slice Ag lg cg)]), (Value.int .i64 q), (Value.slice Ad ld cd)] w4 fun e w5 => ∃ pr : Addr, e = .returned (Value.pointer (some pr)) ∧
Kp w4 w5 g2 ∧
(Calls Try.prog 76 #[(Value.pointer (some pr))] w5 fun e w6 => ∃ Ar : Option Addr, ∃ lr : Nat, ∃ cr : Nat, ∃ r5 : Bool, e = .returned (Value.tuple #[(Value.slice Ar lr cr), (Value.bool (r5))]) ∧
Kp w5 w6 g2 ∧
R (!(r5)) 0 w6)))))) ∧
(¬ (r3 = 0) →
R false r3 w3))))
theorem ok_reduced_IsReduced (g : Int) (Ag : Option Addr) (lg : Nat) (cg : Nat) (q : Int) (Ad : Option Addr) (ld : Nat) (cd : Nat) (w : World) (R : Bool → Int → World → Prop) (h : sh_reduced_IsReduced g Ag lg cg q Ad ld cd w R) :
    Calls Try.prog 29 #[(Value.agg #[(Value.int .i64 g), (Value.slice Ag lg cg)]), (Value.int .i64 q), (Value.slice Ad ld cd)] w fun e w' => ∃ r : Bool, ∃ r2 : Int, e = .returned (Value.tuple #[(Value.bool (r)), (Value.int .i64 r2)]) ∧ R r r2 w' := by
  unfold sh_reduced_IsReduced at h
  refine calls_sh (l := [(Value.agg #[(Value.int .i64 g), (Value.slice Ag lg cg)]), (Value.int .i64 q), (Value.slice Ad ld cd)]) Try.func29 rfl Try.ntmps29 (Nat.le_of_ble_eq_true rfl) ?_
  refine wt_seq ?_
  refine wl_region wd_wide ?_
  refine rl_n rfl rfl rfl rfl (n_box (v := (Value.agg #[(Value.int .i64 g), (Value.slice Ag lg cg)])) rfl ?_)
  intro g2 w2 hN
  replace h := h g2 w2 hN
  have rB : Row w2 g2 24 2 [(Value.int .i64 g), (Value.slice Ag lg cg)] := hN.row
  clear hN
  refine ⟨Stb.none _, ?_⟩
  refine rl_q rfl rfl rfl (v_assign (v := (Value.bool (false))) rfl) ?_
  refine rl_q rfl rfl rfl (v_assign (v := (Value.int .i64 0)) rfl) ?_
  refine rl_end ?_
  refine wt_seq ?_
  refine wt_seq ?_
  refine wl_region wd_wide ?_
  refine rl_q rfl rfl rfl (v_loadn (vs := [(Value.int .i64 g), (Value.slice Ag lg cg)]) rfl Try.underlying24 rfl info_24 ⟨Row.cell rB (i := 0) rfl, Row.cell rB (i := 1) rfl, trivial⟩) ?_
  refine rl_q rfl rfl rfl (v_move (v := (Value.int .i64 q)) rfl) ?_
  refine rl_q rfl rfl rfl (v_move (v := (Value.slice Ad ld cd)) rfl) ?_
  refine rl_n rfl rfl rfl rfl (n_call0 rfl (am3 rfl rfl rfl) enter_63 (h.mono ?_))
  rintro _ w3 ⟨r3, rfl, hk, h⟩
  replace rB := rB.kp hk
  refine ⟨_, rfl, Stb.none _, ?_⟩
  refine rl_q rfl rfl rfl (v_assign (v := (Value.int .i64 r3)) rfl) ?_
  refine rl_end ?_
  refine wt_seq ?_
  refine wl_region wd_wide ?_
  refine rl_q rfl rfl rfl (v_move (v := (Value.int .i64 r3)) rfl) ?_
  refine rl_q rfl rfl rfl (v_neq rfl rfl) ?_
  refine rl_end ?_
  by_cases hp : r3 = 0
  · replace h := h.1 hp
    refine wt_cond_f (congrArg Value.bool (congrArg Bool.not (decide_eq_true hp))) ?_
    refine wt_skip ?_
    refine wt_seq ?_
    refine wt_seq ?_
    refine wl_region wd_wide ?_
    refine rl_q rfl rfl rfl (v_move (v := (Value.int .i64 q)) rfl) ?_
    refine rl_q rfl rfl rfl (v_move (v := (Value.slice Ad ld cd)) rfl) ?_
    refine rl_n rfl rfl rfl rfl (n_call0 rfl (am2 rfl rfl) enter_75 (h.mono ?_))
    rintro _ w4 ⟨r4, rfl, hk2, h⟩
    replace rB := rB.kp hk2
    refine ⟨_, rfl, Stb.none _, ?_⟩
    refine rl_end ?_
    by_cases hp2 : r4 = true
    · replace h := h.1 hp2
      refine wt_cond_t (congrArg Value.bool hp2) ?_
      refine wt_seq ?_
      refine wl_region wd_wide ?_
      refine rl_q rfl rfl rfl (v_assign (v := (Value.bool (false))) rfl) ?_
      refine rl_q rfl rfl rfl (v_assign (v := (Value.int .i64 0)) rfl) ?_
      refine rl_end ?_
      exact wt_ret2 rfl rfl rfl ⟨_, _, rfl, h⟩
    · replace h := h.2 hp2
      refine wt_cond_f (congrArg Value.bool (Bool.eq_false_iff.2 hp2)) ?_
      refine wt_skip ?_
      refine wt_seq ?_
      refine wl_region wd_wide ?_
      refine rl_q rfl rfl rfl (v_loadn (vs := [(Value.int .i64 g), (Value.slice Ag lg cg)]) rfl Try.underlying24 rfl info_24 ⟨Row.cell rB (i := 0) rfl, Row.cell rB (i := 1) rfl, trivial⟩) ?_
      refine rl_q rfl rfl rfl (v_move (v := (Value.int .i64 q)) rfl) ?_
      refine rl_q rfl rfl rfl (v_move (v := (Value.slice Ad ld cd)) rfl) ?_
      refine rl_n rfl rfl rfl rfl (n_call0 rfl (am3 rfl rfl rfl) enter_64 (h.mono ?_))
      rintro _ w5 ⟨pr, rfl, hk3, h⟩
      replace rB := rB.kp hk3
      refine ⟨_, rfl, Stb.none _, ?_⟩
      refine rl_n rfl rfl rfl rfl (n_call0 rfl (am1 rfl) enter_76 (h.mono ?_))
      rintro _ w6 ⟨Ar, lr, cr, r5, rfl, hk4, h⟩
      replace rB := rB.kp hk4
      refine ⟨_, rfl, Stb.none _, ?_⟩
      refine rl_q rfl rfl rfl (v_move (v := (Value.tuple #[(Value.slice Ar lr cr), (Value.bool (r5))])) rfl) ?_
      refine rl_q rfl rfl rfl (v_extract (v := (Value.slice Ar lr cr)) rfl rfl) ?_
      refine rl_q rfl rfl rfl (v_extract (v := (Value.bool (r5))) rfl rfl) ?_
      refine rl_q rfl rfl rfl (v_assign (v := (Value.slice Ar lr cr)) rfl) ?_
      refine rl_q rfl rfl rfl (v_assign (v := (Value.bool (r5))) rfl) ?_
      refine rl_end ?_
      refine wt_seq ?_
      refine wl_region wd_wide ?_
      refine rl_q rfl rfl rfl (v_move (v := (Value.bool (r5))) rfl) ?_
      refine rl_q rfl rfl rfl (v_not rfl) ?_
      refine rl_q rfl rfl rfl (v_assign (v := (Value.bool (!(r5)))) rfl) ?_
      refine rl_q rfl rfl rfl (v_assign (v := (Value.int .i64 0)) rfl) ?_
      refine rl_end ?_
      exact wt_ret2 rfl rfl rfl ⟨_, _, rfl, h⟩
  · replace h := h.2 hp
    refine wt_cond_t (congrArg Value.bool (congrArg Bool.not (decide_eq_false hp))) ?_
    refine wt_seq ?_
    refine wl_region wd_wide ?_
    refine rl_q rfl rfl rfl (v_move (v := (Value.int .i64 r3)) rfl) ?_
    refine rl_q rfl rfl rfl (v_assign (v := (Value.bool (false))) rfl) ?_
    refine rl_q rfl rfl rfl (v_assign (v := (Value.int .i64 r3)) rfl) ?_
    refine rl_end ?_
    exact wt_ret2 rfl rfl rfl ⟨_, _, rfl, h⟩

/-- sandpile/reduced.Unburnt: what its code does. -/
def sh_reduced_Unburnt (g : Int) (Ag : Option Addr) (lg : Nat) (cg : Nat) (q : Int) (Ad : Option Addr) (ld : Nat) (cd : Nat) (w : World) (R : Option Addr → Nat → Nat → Int → World → Prop) : Prop :=
(∀ (g2 : Nat) (w2 : World), New w g2 w2 #[(Value.int .i64 g), (Value.slice Ag lg cg)] 24 →
(Calls Try.prog 63 #[(Value.agg #[(Value.int .i64 g), (Value.slice Ag lg cg)]), (Value.int .i64 q), (Value.slice Ad ld cd)] w2 fun e w3 => ∃ r2 : Int, e = .returned (Value.int .i64 r2) ∧
Kp w2 w3 g2 ∧
((r2 = 0 →
(Calls Try.prog 75 #[(Value.int .i64 q), (Value.slice Ad ld cd)] w3 fun e w4 => ∃ r3 : Bool, e = .returned (Value.bool (r3)) ∧
Kp w3 w4 g2 ∧
((r3 = true →
R none 0 0 15 w4) ∧
(¬ (r3 = true) →
(Calls Try.prog 64 #[(Value.agg #[(Value.int .i64 g), (Value.slice Ag lg cg)]), (Value.int .i64 q), (Value.slice Ad ld cd)] w4 fun e w5 => ∃ pr : Addr, e = .returned (Value.pointer (some pr)) ∧
Kp w4 w5 g2 ∧
(Calls Try.prog 76 #[(Value.pointer (some pr))] w5 fun e w6 => ∃ Ar2 : Option Addr, ∃ lr2 : Nat, ∃ cr2 : Nat, ∃ r4 : Bool, e = .returned (Value.tuple #[(Value.slice Ar2 lr2 cr2), (Value.bool (r4))]) ∧
Kp w5 w6 g2 ∧
(∃ I2 : Nat → Option Addr → Nat → Nat → Int → World → Prop, (∃ m0, I2 m0 none 0 0 0 w6) ∧ ∀ (m1 : Nat) (Aout : Option Addr) (lout : Nat) (cout : Nat) (i : Int) (w7 : World), I2 m1 Aout lout cout i w7 → 
((i < ((lr2 : Nat) : Int) →
(Ix Ar2 lr2 i ∧
(∃ x : Bool, w7.cell? (ixA Ar2 i 1) = some (Value.bool (x)) ∧
((x = true →
(∀ (g3 : Nat) (w8 : World), New w7 g3 w8 #[(Value.int .i64 i)] 3 →
(∃ (B : Nat) (xs nw : List Value) (ad : Addr), OwnS w8 B 3 1 Aout lout cout xs ∧ (some ⟨g3, 0, none⟩) = some ad ∧ nw.length = 1 * 1 ∧ (∀ j u, nw[j]? = some u → w8.cell? (ad.add j) = some u) ∧ (∀ u ∈ nw, u.oneCell' = true) ∧ lout + 1 ≤ maxLen ∧ (lout + 1) * 8 ≤ 140737488355328 ∧ B ≤ w8.heap.size ∧
∀ A c w9, OwnS w9 B 3 1 A (lout + 1) c (xs ++ nw) → w8.grownBy w9 (Option.map Addr.block Aout) → (Option.map Addr.block A = Option.map Addr.block Aout ∨ Option.map Addr.block A = some w8.heap.size) →
Kp w8 w9 g2 ∧
(In64 (i + 1) ∧
∃ m2, m2 < m1 ∧ I2 m2 A (lout + 1) c (i + 1) w9)))) ∧
(¬ (x = true) →
(In64 (i + 1) ∧
∃ m3, m3 < m1 ∧ I2 m3 Aout lout cout (i + 1) w7)))))) ∧
(¬ (i < ((lr2 : Nat) : Int)) →
R Aout lout cout 0 w7))))))))) ∧
(¬ (r2 = 0) →
R none 0 0 r2 w3))))
theorem ok_reduced_Unburnt (g : Int) (Ag : Option Addr) (lg : Nat) (cg : Nat) (q : Int) (Ad : Option Addr) (ld : Nat) (cd : Nat) (w : World) (R : Option Addr → Nat → Nat → Int → World → Prop) (h : sh_reduced_Unburnt g Ag lg cg q Ad ld cd w R) :
    Calls Try.prog 31 #[(Value.agg #[(Value.int .i64 g), (Value.slice Ag lg cg)]), (Value.int .i64 q), (Value.slice Ad ld cd)] w fun e w' => ∃ Ar : Option Addr, ∃ lr : Nat, ∃ cr : Nat, ∃ r : Int, e = .returned (Value.tuple #[(Value.slice Ar lr cr), (Value.int .i64 r)]) ∧ R Ar lr cr r w' := by
  unfold sh_reduced_Unburnt at h
  refine calls_sh (l := [(Value.agg #[(Value.int .i64 g), (Value.slice Ag lg cg)]), (Value.int .i64 q), (Value.slice Ad ld cd)]) Try.func31 rfl Try.ntmps31 (Nat.le_of_ble_eq_true rfl) ?_
  refine wt_seq ?_
  refine wl_region wd_wide ?_
  refine rl_n rfl rfl rfl rfl (n_box (v := (Value.agg #[(Value.int .i64 g), (Value.slice Ag lg cg)])) rfl ?_)
  intro g2 w2 hN
  replace h := h g2 w2 hN
  have rB : Row w2 g2 24 2 [(Value.int .i64 g), (Value.slice Ag lg cg)] := hN.row
  clear hN
  refine ⟨Stb.none _, ?_⟩
  refine rl_q rfl rfl rfl (v_assign (v := (Value.slice none 0 0)) rfl) ?_
  refine rl_q rfl rfl rfl (v_assign (v := (Value.int .i64 0)) rfl) ?_
  refine rl_end ?_
  refine wt_seq ?_
  refine wt_seq ?_
  refine wl_region wd_wide ?_
  refine rl_q rfl rfl rfl (v_loadn (vs := [(Value.int .i64 g), (Value.slice Ag lg cg)]) rfl Try.underlying24 rfl info_24 ⟨Row.cell rB (i := 0) rfl, Row.cell rB (i := 1) rfl, trivial⟩) ?_
  refine rl_q rfl rfl rfl (v_move (v := (Value.int .i64 q)) rfl) ?_
  refine rl_q rfl rfl rfl (v_move (v := (Value.slice Ad ld cd)) rfl) ?_
  refine rl_n rfl rfl rfl rfl (n_call0 rfl (am3 rfl rfl rfl) enter_63 (h.mono ?_))
  rintro _ w3 ⟨r2, rfl, hk, h⟩
  replace rB := rB.kp hk
  refine ⟨_, rfl, Stb.none _, ?_⟩
  refine rl_q rfl rfl rfl (v_assign (v := (Value.int .i64 r2)) rfl) ?_
  refine rl_end ?_
  refine wt_seq ?_
  refine wl_region wd_wide ?_
  refine rl_q rfl rfl rfl (v_move (v := (Value.int .i64 r2)) rfl) ?_
  refine rl_q rfl rfl rfl (v_neq rfl rfl) ?_
  refine rl_end ?_
  by_cases hp : r2 = 0
  · replace h := h.1 hp
    refine wt_cond_f (congrArg Value.bool (congrArg Bool.not (decide_eq_true hp))) ?_
    refine wt_skip ?_
    refine wt_seq ?_
    refine wt_seq ?_
    refine wl_region wd_wide ?_
    refine rl_q rfl rfl rfl (v_move (v := (Value.int .i64 q)) rfl) ?_
    refine rl_q rfl rfl rfl (v_move (v := (Value.slice Ad ld cd)) rfl) ?_
    refine rl_n rfl rfl rfl rfl (n_call0 rfl (am2 rfl rfl) enter_75 (h.mono ?_))
    rintro _ w4 ⟨r3, rfl, hk2, h⟩
    replace rB := rB.kp hk2
    refine ⟨_, rfl, Stb.none _, ?_⟩
    refine rl_end ?_
    by_cases hp2 : r3 = true
    · replace h := h.1 hp2
      refine wt_cond_t (congrArg Value.bool hp2) ?_
      refine wt_seq ?_
      refine wl_region wd_wide ?_
      refine rl_q rfl rfl rfl (v_assign (v := (Value.slice none 0 0)) rfl) ?_
      refine rl_q rfl rfl rfl (v_assign (v := (Value.int .i64 15)) rfl) ?_
      refine rl_end ?_
      exact wt_ret2 rfl rfl rfl ⟨_, _, _, _, rfl, h⟩
    · replace h := h.2 hp2
      refine wt_cond_f (congrArg Value.bool (Bool.eq_false_iff.2 hp2)) ?_
      refine wt_skip ?_
      refine wt_seq ?_
      refine wl_region wd_wide ?_
      refine rl_q rfl rfl rfl (v_loadn (vs := [(Value.int .i64 g), (Value.slice Ag lg cg)]) rfl Try.underlying24 rfl info_24 ⟨Row.cell rB (i := 0) rfl, Row.cell rB (i := 1) rfl, trivial⟩) ?_
      refine rl_q rfl rfl rfl (v_move (v := (Value.int .i64 q)) rfl) ?_
      refine rl_q rfl rfl rfl (v_move (v := (Value.slice Ad ld cd)) rfl) ?_
      refine rl_n rfl rfl rfl rfl (n_call0 rfl (am3 rfl rfl rfl) enter_64 (h.mono ?_))
      rintro _ w5 ⟨pr, rfl, hk3, h⟩
      replace rB := rB.kp hk3
      refine ⟨_, rfl, Stb.none _, ?_⟩
      refine rl_n rfl rfl rfl rfl (n_call0 rfl (am1 rfl) enter_76 (h.mono ?_))
      rintro _ w6 ⟨Ar2, lr2, cr2, r4, rfl, hk4, h⟩
      replace rB := rB.kp hk4
      refine ⟨_, rfl, Stb.none _, ?_⟩
      refine rl_q rfl rfl rfl (v_move (v := (Value.tuple #[(Value.slice Ar2 lr2 cr2), (Value.bool (r4))])) rfl) ?_
      refine rl_q rfl rfl rfl (v_extract (v := (Value.slice Ar2 lr2 cr2)) rfl rfl) ?_
      refine rl_q rfl rfl rfl (v_extract (v := (Value.bool (r4))) rfl rfl) ?_
      refine rl_q rfl rfl rfl (v_assign (v := (Value.slice Ar2 lr2 cr2)) rfl) ?_
      refine rl_q rfl rfl rfl (v_assign (v := (Value.bool (r4))) rfl) ?_
      refine rl_end ?_
      refine wt_seq ?_
      refine wl_region wd_wide ?_
      refine rl_q rfl rfl rfl (v_assign (v := (Value.slice none 0 0)) rfl) ?_
      refine rl_end ?_
      refine wt_seq ?_
      refine wt_seq ?_
      refine wl_region wd_wide ?_
      refine rl_q rfl rfl rfl (v_move (v := (Value.slice Ar2 lr2 cr2)) rfl) ?_
      refine rl_q rfl rfl rfl (v_len rfl Try.underlying102) ?_
      refine rl_q rfl rfl rfl (v_move (v := (Value.int .i64 0)) rfl) ?_
      refine rl_end ?_
      refine wt_block ?_
      obtain ⟨I2, ⟨m0, h0⟩, hr⟩ := h
      refine wt_loop (fun m E ds w' => ∃ Aout : Option Addr, ∃ lout : Nat, ∃ cout : Nat, ∃ i : Int, I2 m Aout lout cout i w' ∧ ds = [] ∧ E 11 = (Value.slice Aout lout cout) ∧ E 32 = (Value.slice Ar2 lr2 cr2) ∧ E 33 = (Value.int .i64 ((lr2 : Nat) : Int)) ∧ E 34 = (Value.int .i64 i) ∧ Row w' g2 24 2 [(Value.int .i64 g), (Value.slice Ag lg cg)]) m0 ⟨_, _, _, _, h0, rfl, rfl, rfl, rfl, rfl, rB⟩ ?_
      clear h0
      rintro m1 E ds w7 ⟨Aout, lout, cout, i, h, rfl, hE11, hE32, hE33, hE34, rB⟩ again
      replace h := hr m1 Aout lout cout i w7 h
      clear hr
      refine wt_seq ?_
      refine wl_region wd_wide ?_
      refine rl_q rfl rfl rfl (v_lss hE34 hE33) ?_
      refine rl_end ?_
      refine wt_seq ?_
      by_cases hp3 : i < ((lr2 : Nat) : Int)
      · replace h := h.1 hp3
        refine wt_cond_t (congrArg Value.bool (decide_eq_true hp3)) ?_
        refine wt_skip ?_
        refine wt_seq ?_
        refine wt_block ?_
        refine wt_seq ?_
        refine wl_region wd_wide ?_
        refine rl_q rfl rfl rfl (v_move (v := (Value.int .i64 i)) hE34) ?_
        obtain ⟨hx, h⟩ := h
        refine rl_q rfl rfl rfl (v_iaddr hE32 hE34 Try.underlying102 info_4 hx) ?_
        obtain ⟨x, hc, h⟩ := h
        refine rl_q rfl rfl rfl (v_load rfl Try.underlying4 rfl hc) ?_
        refine rl_q rfl rfl rfl (v_assign (v := (Value.int .i64 i)) rfl) ?_
        refine rl_q rfl rfl rfl (v_assign (v := (Value.bool (x))) rfl) ?_
        refine rl_end ?_
        refine wt_seq ?_
        refine wl_region wd_wide ?_
        refine rl_q rfl rfl rfl (v_move (v := (Value.bool (x))) rfl) ?_
        refine rl_end ?_
        by_cases hp4 : x = true
        · replace h := h.1 hp4
          refine wt_cond_t (congrArg Value.bool hp4) ?_
          refine wl_region wd_wide ?_
          refine rl_q rfl rfl rfl (v_move (v := (Value.slice Aout lout cout)) hE11) ?_
          refine rl_q rfl rfl rfl (v_move (v := (Value.int .i64 i)) rfl) ?_
          refine rl_n rfl rfl rfl rfl (n_bslice (l := [(0, (Value.int .i64 i))]) (cells := [(Value.int .i64 i)]) (bp1 rfl) Try.underlying25 info_3 rfl rfl ?_)
          intro g3 w8 hN2
          replace h := h g3 w8 hN2
          replace rB := rB.kp (hN2.kp _)
          clear hN2
          refine ⟨Stb.none _, ?_⟩
          obtain ⟨B, xs, nw, ad, q1, q2, q3, q4, q5, q6, q7, q8, h⟩ := h
          refine rl_n rfl rfl rfl rfl (n_append rfl rfl Try.underlying25 info_3 rfl ⟨B, xs, nw, ad, q1, q2, q3, q4, q5, q6, q7, q8, ?_⟩)
          intro A c w9 q9 q10 q11
          replace h := h A c w9 q9 q10 q11
          clear q1 q2 q3 q4 q5 q6 q7 q8 q9 q10 q11
          obtain ⟨hk5, h⟩ := h
          replace rB := rB.kp hk5
          refine ⟨Stb.none _, ?_⟩
          refine rl_q rfl rfl rfl (v_assign (v := (Value.slice A (lout + 1) c)) rfl) ?_
          refine rl_end ?_
          refine wt_inBlock ?_
          refine wl_region wd_wide ?_
          obtain ⟨hi, h⟩ := h
          refine rl_q rfl rfl rfl (v_add hE34 rfl hi) ?_
          refine rl_q rfl rfl rfl (v_move (v := (Value.int .i64 (i + 1))) rfl) ?_
          refine rl_end ?_
          obtain ⟨mq, hlt, h⟩ := h
          exact again mq _ _ _ ⟨_, _, _, _, h, rfl, rfl, hE32, hE33, rfl, rB⟩ hlt
        · replace h := h.2 hp4
          refine wt_cond_f (congrArg Value.bool (Bool.eq_false_iff.2 hp4)) ?_
          refine wt_skip ?_
          refine wt_inBlock ?_
          refine wl_region wd_wide ?_
          obtain ⟨hi2, h⟩ := h
          refine rl_q rfl rfl rfl (v_add hE34 rfl hi2) ?_
          refine rl_q rfl rfl rfl (v_move (v := (Value.int .i64 (i + 1))) rfl) ?_
          refine rl_end ?_
          obtain ⟨mq, hlt, h⟩ := h
          exact again mq _ _ _ ⟨_, _, _, _, h, rfl, hE11, hE32, hE33, rfl, rB⟩ hlt
      · replace h := h.2 hp3
        refine wt_cond_f (congrArg Value.bool (decide_eq_false hp3)) ?_
        refine wt_exit rfl ?_
        refine wt_seq ?_
        refine wl_region wd_wide ?_
        refine rl_q rfl rfl rfl (v_move (v := (Value.slice Aout lout cout)) hE11) ?_
        refine rl_q rfl rfl rfl (v_assign (v := (Value.slice Aout lout cout)) rfl) ?_
        refine rl_q rfl rfl rfl (v_assign (v := (Value.int .i64 0)) rfl) ?_
        refine rl_end ?_
        exact wt_ret2 rfl rfl rfl ⟨_, _, _, _, rfl, h⟩
  · replace h := h.2 hp
    refine wt_cond_t (congrArg Value.bool (congrArg Bool.not (decide_eq_false hp))) ?_
    refine wt_seq ?_
    refine wl_region wd_wide ?_
    refine rl_q rfl rfl rfl (v_move (v := (Value.int .i64 r2)) rfl) ?_
    refine rl_q rfl rfl rfl (v_assign (v := (Value.slice none 0 0)) rfl) ?_
    refine rl_q rfl rfl rfl (v_assign (v := (Value.int .i64 r2)) rfl) ?_
    refine rl_end ?_
    exact wt_ret2 rfl rfl rfl ⟨_, _, _, _, rfl, h⟩

/-- sandpile/reduced.Verify: what its code does. -/
def sh_reduced_Verify (g : Int) (Ag : Option Addr) (lg : Nat) (cg : Nat) (q : Int) (Ad : Option Addr) (ld : Nat) (cd : Nat) (Ar : Option Addr) (lr : Nat) (cr : Nat) (As : Option Addr) (ls : Nat) (cs : Nat) (w : World) (R : Int → World → Prop) : Prop :=
(∀ (g2 : Nat) (w2 : World), New w g2 w2 #[(Value.int .i64 g), (Value.slice Ag lg cg)] 24 →
(Calls Try.prog 63 #[(Value.agg #[(Value.int .i64 g), (Value.slice Ag lg cg)]), (Value.int .i64 q), (Value.slice Ad ld cd)] w2 fun e w3 => ∃ r2 : Int, e = .returned (Value.int .i64 r2) ∧
Kp w2 w3 g2 ∧
((r2 = 0 →
(Calls Try.prog 84 #[(Value.slice Ar lr cr), (Value.int .i64 g)] w3 fun e w4 => ∃ r3 : Int, e = .returned (Value.int .i64 r3) ∧
Kp w3 w4 g2 ∧
((r3 = 0 →
(Calls Try.prog 81 #[(Value.agg #[(Value.int .i64 g), (Value.slice Ag lg cg)]), (Value.slice As ls cs)] w4 fun e w5 => ∃ r4 : Int, e = .returned (Value.int .i64 r4) ∧
Kp w4 w5 g2 ∧
((r4 = 0 →
(Calls Try.prog 37 #[(Value.agg #[(Value.int .i64 g), (Value.slice Ag lg cg)]), (Value.slice Ad ld cd), (Value.slice As ls cs)] w5 fun e w6 => ∃ Ar2 : Option Addr, ∃ lr2 : Nat, ∃ cr2 : Nat, ∃ r5 : Int, e = .returned (Value.tuple #[(Value.slice Ar2 lr2 cr2), (Value.int .i64 r5)]) ∧
Kp w5 w6 g2 ∧
(∃ J2 : World → Prop, (∀ (w7 : World), J2 w7 → (Calls Try.prog 29 #[(Value.agg #[(Value.int .i64 g), (Value.slice Ag lg cg)]), (Value.int .i64 q), (Value.slice Ar lr cr)] w7 fun e w8 => ∃ r6 : Bool, ∃ r7 : Int, e = .returned (Value.tuple #[(Value.bool (r6)), (Value.int .i64 r7)]) ∧
Kp w7 w8 g2 ∧
((r6 = true →
R 0 w8) ∧
(¬ (r6 = true) →
R 16 w8)))) ∧
((r5 = 0 →
(Calls Try.prog 19 #[(Value.slice Ar2 lr2 cr2), (Value.slice Ar lr cr)] w6 fun e w9 => ∃ r8 : Bool, e = .returned (Value.bool (r8)) ∧
Kp w6 w9 g2 ∧
((r8 = true →
J2 w9) ∧
(¬ (r8 = true) →
R 16 w9)))) ∧
(¬ (r5 = 0) →
R 16 w6))))) ∧
(¬ (r4 = 0) →
R r4 w5)))) ∧
(¬ (r3 = 0) →
R r3 w4)))) ∧
(¬ (r2 = 0) →
R r2 w3))))
theorem ok_reduced_Verify (g : Int) (Ag : Option Addr) (lg : Nat) (cg : Nat) (q : Int) (Ad : Option Addr) (ld : Nat) (cd : Nat) (Ar : Option Addr) (lr : Nat) (cr : Nat) (As : Option Addr) (ls : Nat) (cs : Nat) (w : World) (R : Int → World → Prop) (h : sh_reduced_Verify g Ag lg cg q Ad ld cd Ar lr cr As ls cs w R) :
    Calls Try.prog 39 #[(Value.agg #[(Value.int .i64 g), (Value.slice Ag lg cg)]), (Value.int .i64 q), (Value.slice Ad ld cd), (Value.slice Ar lr cr), (Value.slice As ls cs)] w fun e w' => ∃ r : Int, e = .returned (Value.int .i64 r) ∧ R r w' := by
  unfold sh_reduced_Verify at h
  refine calls_sh (l := [(Value.agg #[(Value.int .i64 g), (Value.slice Ag lg cg)]), (Value.int .i64 q), (Value.slice Ad ld cd), (Value.slice Ar lr cr), (Value.slice As ls cs)]) Try.func39 rfl Try.ntmps39 (Nat.le_of_ble_eq_true rfl) ?_
  refine wt_seq ?_
  refine wl_region wd_wide ?_
  refine rl_n rfl rfl rfl rfl (n_box (v := (Value.agg #[(Value.int .i64 g), (Value.slice Ag lg cg)])) rfl ?_)
  intro g2 w2 hN
  replace h := h g2 w2 hN
  have rB : Row w2 g2 24 2 [(Value.int .i64 g), (Value.slice Ag lg cg)] := hN.row
  clear hN
  refine ⟨Stb.none _, ?_⟩
  refine rl_q rfl rfl rfl (v_assign (v := (Value.int .i64 0)) rfl) ?_
  refine rl_end ?_
  refine wt_seq ?_
  refine wt_seq ?_
  refine wl_region wd_wide ?_
  refine rl_q rfl rfl rfl (v_loadn (vs := [(Value.int .i64 g), (Value.slice Ag lg cg)]) rfl Try.underlying24 rfl info_24 ⟨Row.cell rB (i := 0) rfl, Row.cell rB (i := 1) rfl, trivial⟩) ?_
  refine rl_q rfl rfl rfl (v_move (v := (Value.int .i64 q)) rfl) ?_
  refine rl_q rfl rfl rfl (v_move (v := (Value.slice Ad ld cd)) rfl) ?_
  refine rl_n rfl rfl rfl rfl (n_call0 rfl (am3 rfl rfl rfl) enter_63 (h.mono ?_))
  rintro _ w3 ⟨r2, rfl, hk, h⟩
  replace rB := rB.kp hk
  refine ⟨_, rfl, Stb.none _, ?_⟩
  refine rl_q rfl rfl rfl (v_assign (v := (Value.int .i64 r2)) rfl) ?_
  refine rl_end ?_
  refine wt_seq ?_
  refine wl_region wd_wide ?_
  refine rl_q rfl rfl rfl (v_move (v := (Value.int .i64 r2)) rfl) ?_
  refine rl_q rfl rfl rfl (v_neq rfl rfl) ?_
  refine rl_end ?_
  by_cases hp : r2 = 0
  · replace h := h.1 hp
    refine wt_cond_f (congrArg Value.bool (congrArg Bool.not (decide_eq_true hp))) ?_
    refine wt_skip ?_
    refine wt_seq ?_
    refine wt_seq ?_
    refine wl_region wd_wide ?_
    refine rl_q rfl rfl rfl (v_move (v := (Value.slice Ar lr cr)) rfl) ?_
    refine rl_q rfl rfl rfl (v_faddr rfl Try.underlying24 rfl info_3) ?_
    refine rl_q rfl rfl rfl (v_load rfl Try.underlying3 rfl (Row.cell rB (i := 0) rfl)) ?_
    refine rl_n rfl rfl rfl rfl (n_call0 rfl (am2 rfl rfl) enter_84 (h.mono ?_))
    rintro _ w4 ⟨r3, rfl, hk2, h⟩
    replace rB := rB.kp hk2
    refine ⟨_, rfl, Stb.none _, ?_⟩
    refine rl_q rfl rfl rfl (v_assign (v := (Value.int .i64 r3)) rfl) ?_
    refine rl_end ?_
    refine wt_seq ?_
    refine wl_region wd_wide ?_
    refine rl_q rfl rfl rfl (v_move (v := (Value.int .i64 r3)) rfl) ?_
    refine rl_q rfl rfl rfl (v_neq rfl rfl) ?_
    refine rl_end ?_
    by_cases hp2 : r3 = 0
    · replace h := h.1 hp2
      refine wt_cond_f (congrArg Value.bool (congrArg Bool.not (decide_eq_true hp2))) ?_
      refine wt_skip ?_
      refine wt_seq ?_
      refine wt_seq ?_
      refine wl_region wd_wide ?_
      refine rl_q rfl rfl rfl (v_loadn (vs := [(Value.int .i64 g), (Value.slice Ag lg cg)]) rfl Try.underlying24 rfl info_24 ⟨Row.cell rB (i := 0) rfl, Row.cell rB (i := 1) rfl, trivial⟩) ?_
      refine rl_q rfl rfl rfl (v_move (v := (Value.slice As ls cs)) rfl) ?_
      refine rl_n rfl rfl rfl rfl (n_call0 rfl (am2 rfl rfl) enter_81 (h.mono ?_))
      rintro _ w5 ⟨r4, rfl, hk3, h⟩
      replace rB := rB.kp hk3
      refine ⟨_, rfl, Stb.none _, ?_⟩
      refine rl_q rfl rfl rfl (v_assign (v := (Value.int .i64 r4)) rfl) ?_
      refine rl_end ?_
      refine wt_seq ?_
      refine wl_region wd_wide ?_
      refine rl_q rfl rfl rfl (v_move (v := (Value.int .i64 r4)) rfl) ?_
      refine rl_q rfl rfl rfl (v_neq rfl rfl) ?_
      refine rl_end ?_
      by_cases hp3 : r4 = 0
      · replace h := h.1 hp3
        refine wt_cond_f (congrArg Value.bool (congrArg Bool.not (decide_eq_true hp3))) ?_
        refine wt_skip ?_
        refine wt_seq ?_
        refine wl_region wd_wide ?_
        refine rl_q rfl rfl rfl (v_loadn (vs := [(Value.int .i64 g), (Value.slice Ag lg cg)]) rfl Try.underlying24 rfl info_24 ⟨Row.cell rB (i := 0) rfl, Row.cell rB (i := 1) rfl, trivial⟩) ?_
        refine rl_q rfl rfl rfl (v_move (v := (Value.slice Ad ld cd)) rfl) ?_
        refine rl_q rfl rfl rfl (v_move (v := (Value.slice As ls cs)) rfl) ?_
        refine rl_n rfl rfl rfl rfl (n_call0 rfl (am3 rfl rfl rfl) enter_37 (h.mono ?_))
        rintro _ w6 ⟨Ar2, lr2, cr2, r5, rfl, hk4, h⟩
        replace rB := rB.kp hk4
        refine ⟨_, rfl, Stb.none _, ?_⟩
        refine rl_q rfl rfl rfl (v_move (v := (Value.tuple #[(Value.slice Ar2 lr2 cr2), (Value.int .i64 r5)])) rfl) ?_
        refine rl_q rfl rfl rfl (v_extract (v := (Value.slice Ar2 lr2 cr2)) rfl rfl) ?_
        refine rl_q rfl rfl rfl (v_extract (v := (Value.int .i64 r5)) rfl rfl) ?_
        refine rl_q rfl rfl rfl (v_assign (v := (Value.slice Ar2 lr2 cr2)) rfl) ?_
        refine rl_q rfl rfl rfl (v_assign (v := (Value.int .i64 r5)) rfl) ?_
        refine rl_end ?_
        refine wt_seq ?_
        refine wt_seq ?_
        obtain ⟨J2, hJ, h⟩ := h
        refine wt_cutT1 (fun E ds w' => J2 w' ∧ ds = [] ∧ E 1 = (Value.int .i64 q) ∧ E 3 = (Value.slice Ar lr cr) ∧ E 5 = (Value.pointer (some (⟨g2, 0, none⟩ : Addr))) ∧ Row w' g2 24 2 [(Value.int .i64 g), (Value.slice Ag lg cg)]) ?_ ?_
        · rintro E ds w7 ⟨h, rfl, hE1, hE3, hE5, rB⟩
          replace h := hJ w7 h
          refine wt_seq ?_
          refine wt_seq ?_
          refine wl_region wd_wide ?_
          refine rl_q rfl rfl rfl (v_loadn (vs := [(Value.int .i64 g), (Value.slice Ag lg cg)]) hE5 Try.underlying24 rfl info_24 ⟨Row.cell rB (i := 0) rfl, Row.cell rB (i := 1) rfl, trivial⟩) ?_
          refine rl_q rfl rfl rfl (v_move (v := (Value.int .i64 q)) hE1) ?_
          refine rl_q rfl rfl rfl (v_move (v := (Value.slice Ar lr cr)) hE3) ?_
          refine rl_n rfl rfl rfl rfl (n_call0 rfl (am3 rfl rfl rfl) enter_29 (h.mono ?_))
          rintro _ w8 ⟨r6, r7, rfl, hk5, h⟩
          replace rB := rB.kp hk5
          refine ⟨_, rfl, Stb.none _, ?_⟩
          refine rl_q rfl rfl rfl (v_move (v := (Value.tuple #[(Value.bool (r6)), (Value.int .i64 r7)])) rfl) ?_
          refine rl_q rfl rfl rfl (v_extract (v := (Value.bool (r6))) rfl rfl) ?_
          refine rl_q rfl rfl rfl (v_extract (v := (Value.int .i64 r7)) rfl rfl) ?_
          refine rl_q rfl rfl rfl (v_assign (v := (Value.bool (r6))) rfl) ?_
          refine rl_q rfl rfl rfl (v_assign (v := (Value.int .i64 r7)) rfl) ?_
          refine rl_end ?_
          refine wt_seq ?_
          refine wl_region wd_wide ?_
          refine rl_q rfl rfl rfl (v_move (v := (Value.bool (r6))) rfl) ?_
          refine rl_q rfl rfl rfl (v_not rfl) ?_
          refine rl_end ?_
          by_cases hp4 : r6 = true
          · replace h := h.1 hp4
            refine wt_cond_f (congrArg Value.bool (congrArg Bool.not hp4)) ?_
            refine wt_skip ?_
            refine wt_seq ?_
            refine wl_region wd_wide ?_
            refine rl_q rfl rfl rfl (v_assign (v := (Value.int .i64 0)) rfl) ?_
            refine rl_end ?_
            exact wt_ret1 rfl rfl ⟨_, rfl, h⟩
          · replace h := h.2 hp4
            refine wt_cond_t (congrArg Value.bool (congrArg Bool.not (Bool.eq_false_iff.2 hp4))) ?_
            refine wt_seq ?_
            refine wl_region wd_wide ?_
            refine rl_q rfl rfl rfl (v_assign (v := (Value.int .i64 16)) rfl) ?_
            refine rl_end ?_
            exact wt_ret1 rfl rfl ⟨_, rfl, h⟩
        clear hJ
        intro j
        refine wl_region wd_wide ?_
        refine rl_q rfl rfl rfl (v_move (v := (Value.int .i64 r5)) rfl) ?_
        refine rl_q rfl rfl rfl (v_neq rfl rfl) ?_
        refine rl_q rfl rfl rfl (v_move (v := (Value.bool (!(decide (r5 = 0))))) rfl) ?_
        by_cases hp5 : r5 = 0
        · replace h := h.1 hp5
          refine rl_q (wanted_g rfl (yE_of rfl (congrArg Value.bool (congrArg Bool.not (decide_eq_true hp5))))) rfl rfl (v_move (v := (Value.slice Ar2 lr2 cr2)) rfl) ?_
          refine rl_q (wanted_g rfl (yE_of rfl (congrArg Value.bool (congrArg Bool.not (decide_eq_true hp5))))) rfl rfl (v_move (v := (Value.slice Ar lr cr)) rfl) ?_
          refine rl_n (wanted_g rfl (yE_of rfl (congrArg Value.bool (congrArg Bool.not (decide_eq_true hp5))))) rfl rfl rfl (n_call0 rfl (am2 rfl rfl) enter_19 (h.mono ?_))
          rintro _ w9 ⟨r8, rfl, hk6, h⟩
          replace rB := rB.kp hk6
          refine ⟨_, rfl, Stb.none _, ?_⟩
          refine rl_q (wanted_g rfl (yE_of rfl (congrArg Value.bool (congrArg Bool.not (decide_eq_true hp5))))) rfl rfl (v_not rfl) ?_
          refine rl_q rfl rfl rfl (v_pick_f (v := (Value.bool (!(r8)))) (congrArg Value.bool (congrArg Bool.not (decide_eq_true hp5))) rfl) ?_
          refine rl_end ?_
          by_cases hp6 : r8 = true
          · replace h := h.1 hp6
            refine wt_cond_f (congrArg Value.bool (congrArg Bool.not hp6)) ?_
            refine wt_skip ?_
            exact j _ _ _ ⟨h, rfl, rfl, rfl, rfl, rB⟩
          · replace h := h.2 hp6
            refine wt_cond_t (congrArg Value.bool (congrArg Bool.not (Bool.eq_false_iff.2 hp6))) ?_
            refine wt_seq ?_
            refine wl_region wd_wide ?_
            refine rl_q rfl rfl rfl (v_assign (v := (Value.int .i64 16)) rfl) ?_
            refine rl_end ?_
            exact wt_ret1 rfl rfl ⟨_, rfl, h⟩
        · replace h := h.2 hp5
          refine rl_p (wanted_n rfl (yE_of rfl (congrArg Value.bool (congrArg Bool.not (decide_eq_false hp5)))) rfl) rfl ?_
          refine rl_p (wanted_n rfl (yE_of rfl (congrArg Value.bool (congrArg Bool.not (decide_eq_false hp5)))) rfl) rfl ?_
          refine rl_p (wanted_n rfl (yE_of rfl (congrArg Value.bool (congrArg Bool.not (decide_eq_false hp5)))) rfl) rfl ?_
          refine rl_p (wanted_n rfl (yE_of rfl (congrArg Value.bool (congrArg Bool.not (decide_eq_false hp5)))) rfl) rfl ?_
          refine rl_q rfl rfl rfl (v_pick_t (v := (Value.bool (true))) (congrArg Value.bool (congrArg Bool.not (decide_eq_false hp5))) rfl) ?_
          refine rl_end ?_
          refine wt_cond_t rfl ?_
          refine wt_seq ?_
          refine wl_region wd_wide ?_
          refine rl_q rfl rfl rfl (v_assign (v := (Value.int .i64 16)) rfl) ?_
          refine rl_end ?_
          exact wt_ret1 rfl rfl ⟨_, rfl, h⟩
      · replace h := h.2 hp3
        refine wt_cond_t (congrArg Value.bool (congrArg Bool.not (decide_eq_false hp3))) ?_
        refine wt_seq ?_
        refine wl_region wd_wide ?_
        refine rl_q rfl rfl rfl (v_move (v := (Value.int .i64 r4)) rfl) ?_
        refine rl_q rfl rfl rfl (v_assign (v := (Value.int .i64 r4)) rfl) ?_
        refine rl_end ?_
        exact wt_ret1 rfl rfl ⟨_, rfl, h⟩
    · replace h := h.2 hp2
      refine wt_cond_t (congrArg Value.bool (congrArg Bool.not (decide_eq_false hp2))) ?_
      refine wt_seq ?_
      refine wl_region wd_wide ?_
      refine rl_q rfl rfl rfl (v_move (v := (Value.int .i64 r3)) rfl) ?_
      refine rl_q rfl rfl rfl (v_assign (v := (Value.int .i64 r3)) rfl) ?_
      refine rl_end ?_
      exact wt_ret1 rfl rfl ⟨_, rfl, h⟩
  · replace h := h.2 hp
    refine wt_cond_t (congrArg Value.bool (congrArg Bool.not (decide_eq_false hp))) ?_
    refine wt_seq ?_
    refine wl_region wd_wide ?_
    refine rl_q rfl rfl rfl (v_move (v := (Value.int .i64 r2)) rfl) ?_
    refine rl_q rfl rfl rfl (v_assign (v := (Value.int .i64 r2)) rfl) ?_
    refine rl_end ?_
    exact wt_ret1 rfl rfl ⟨_, rfl, h⟩

/-- slices.Max[[]int,int]: what its code does. -/
def sh_slices_Max_ (Ax : Option Addr) (lx : Nat) (cx : Nat) (w : World) (R : Int → World → Prop) : Prop :=
(∃ J2 : World → Prop, (∀ (w2 : World), J2 w2 → (Ix Ax lx 0 ∧
(∃ x : Int, w2.cell? (ixA Ax 0 1) = some (Value.int .i64 x) ∧
(∃ I2 : Nat → Int → Int → World → Prop, (∃ m0, I2 m0 x 1 w2) ∧ ∀ (m1 : Nat) (m2 : Int) (i : Int) (w3 : World), I2 m1 m2 i w3 → 
((i < ((lx : Nat) : Int) →
(Ix Ax lx i ∧
(∃ x2 : Int, w3.cell? (ixA Ax i 1) = some (Value.int .i64 x2) ∧
(In64 (i + 1) ∧
∃ m3, m3 < m1 ∧ I2 m3 (mxF m2 x2) (i + 1) w3)))) ∧
(¬ (i < ((lx : Nat) : Int)) →
R m2 w3)))))) ∧
((((lx : Nat) : Int) < 1 →
False) ∧
(¬ (((lx : Nat) : Int) < 1) →
J2 w)))
theorem ok_slices_Max_ (Ax : Option Addr) (lx : Nat) (cx : Nat) (w : World) (R : Int → World → Prop) (h : sh_slices_Max_ Ax lx cx w R) :
    Calls Try.prog 113 #[(Value.slice Ax lx cx)] w fun e w' => ∃ r : Int, e = .returned (Value.int .i64 r) ∧ R r w' := by
  unfold sh_slices_Max_ at h
  refine calls_sh (l := [(Value.slice Ax lx cx)]) Try.func113 rfl Try.ntmps113 (Nat.le_of_ble_eq_true rfl) ?_
  refine wt_seq ?_
  refine wl_region wd_wide ?_
  refine rl_q rfl rfl rfl (v_assign (v := (Value.int .i64 0)) rfl) ?_
  refine rl_end ?_
  refine wt_seq ?_
  refine wt_seq ?_
  refine wl_region wd_wide ?_
  refine rl_q rfl rfl rfl (v_move (v := (Value.slice Ax lx cx)) rfl) ?_
  refine rl_q rfl rfl rfl (v_len rfl Try.underlying25) ?_
  refine rl_q rfl rfl rfl (v_lss rfl rfl) ?_
  refine rl_end ?_
  obtain ⟨J2, hJ, h⟩ := h
  refine wt_cutT0 (fun E ds w' => J2 w' ∧ ds = [] ∧ E 0 = (Value.slice Ax lx cx)) ?_ ?_
  · rintro E ds w2 ⟨h, rfl, hE0⟩
    replace h := hJ w2 h
    refine wt_seq ?_
    refine wl_region wd_wide ?_
    refine rl_q rfl rfl rfl (v_move (v := (Value.slice Ax lx cx)) hE0) ?_
    obtain ⟨hx, h⟩ := h
    refine rl_q rfl rfl rfl (v_iaddr rfl rfl Try.underlying25 info_3 hx) ?_
    obtain ⟨x, hc, h⟩ := h
    refine rl_q rfl rfl rfl (v_load rfl Try.underlying3 rfl hc) ?_
    refine rl_q rfl rfl rfl (v_assign (v := (Value.int .i64 x)) rfl) ?_
    refine rl_end ?_
    refine wt_seq ?_
    refine wt_seq ?_
    refine wl_region wd_wide ?_
    refine rl_q rfl rfl rfl (v_assign (v := (Value.int .i64 1)) rfl) ?_
    refine rl_end ?_
    refine wt_block ?_
    obtain ⟨I2, ⟨m0, h0⟩, hr⟩ := h
    refine wt_loop (fun m E ds w' => ∃ m2 : Int, ∃ i : Int, I2 m m2 i w' ∧ ds = [] ∧ E 0 = (Value.slice Ax lx cx) ∧ E 3 = (Value.int .i64 m2) ∧ E 4 = (Value.int .i64 i)) m0 ⟨_, _, h0, rfl, hE0, rfl, rfl⟩ ?_
    clear h0
    rintro m1 E ds w3 ⟨m2, i, h, rfl, hE0, hE3, hE4⟩ again
    replace h := hr m1 m2 i w3 h
    clear hr
    refine wt_seq ?_
    refine wt_seq ?_
    refine wl_region wd_wide ?_
    refine rl_q rfl rfl rfl (v_move (v := (Value.int .i64 i)) hE4) ?_
    refine rl_q rfl rfl rfl (v_move (v := (Value.slice Ax lx cx)) hE0) ?_
    refine rl_q rfl rfl rfl (v_len rfl Try.underlying25) ?_
    refine rl_q rfl rfl rfl (v_lss rfl rfl) ?_
    refine rl_end ?_
    by_cases hp : i < ((lx : Nat) : Int)
    · replace h := h.1 hp
      refine wt_cond_t (congrArg Value.bool (decide_eq_true hp)) ?_
      refine wt_skip ?_
      refine wt_seq ?_
      refine wt_block ?_
      refine wl_region wd_wide ?_
      refine rl_q rfl rfl rfl (v_move (v := (Value.int .i64 m2)) hE3) ?_
      refine rl_q rfl rfl rfl (v_move (v := (Value.slice Ax lx cx)) hE0) ?_
      refine rl_q rfl rfl rfl (v_move (v := (Value.int .i64 i)) hE4) ?_
      obtain ⟨hx2, h⟩ := h
      refine rl_q rfl rfl rfl (v_iaddr rfl rfl Try.underlying25 info_3 hx2) ?_
      obtain ⟨x2, hc2, h⟩ := h
      refine rl_q rfl rfl rfl (v_load rfl Try.underlying3 rfl hc2) ?_
      refine rl_q rfl rfl rfl (v_max2 rfl rfl) ?_
      refine rl_q rfl rfl rfl (v_assign (v := (Value.int .i64 (mxF m2 x2))) rfl) ?_
      refine rl_end ?_
      refine wt_inBlock ?_
      refine wl_region wd_wide ?_
      refine rl_q rfl rfl rfl (v_move (v := (Value.int .i64 i)) hE4) ?_
      obtain ⟨hi, h⟩ := h
      refine rl_q rfl rfl rfl (v_add rfl rfl hi) ?_
      refine rl_q rfl rfl rfl (v_assign (v := (Value.int .i64 (i + 1))) rfl) ?_
      refine rl_end ?_
      obtain ⟨mq, hlt, h⟩ := h
      exact again mq _ _ _ ⟨_, _, h, rfl, hE0, rfl, rfl⟩ hlt
    · replace h := h.2 hp
      refine wt_cond_f (congrArg Value.bool (decide_eq_false hp)) ?_
      refine wt_exit rfl ?_
      refine wt_seq ?_
      refine wl_region wd_wide ?_
      refine rl_q rfl rfl rfl (v_move (v := (Value.int .i64 m2)) hE3) ?_
      refine rl_q rfl rfl rfl (v_assign (v := (Value.int .i64 m2)) rfl) ?_
      refine rl_end ?_
      exact wt_ret1 rfl rfl ⟨_, rfl, h⟩
  clear hJ
  intro j
  by_cases hp2 : ((lx : Nat) : Int) < 1
  · replace h := h.1 hp2
    refine wt_cond_t (congrArg Value.bool (decide_eq_true hp2)) ?_
    refine wl_region wd_wide ?_
    exact h.elim
  · replace h := h.2 hp2
    refine wt_cond_f (congrArg Value.bool (decide_eq_false hp2)) ?_
    refine wt_skip ?_
    exact j _ _ _ ⟨h, rfl, rfl⟩
end Go.Proofs.Ytnhmeckhlajeaaa
