/- Shallow forms of functions, made by program (sh.py), each with the proof that the code does so. -/
import Derived.Test.YtnhmeckhlajeaaaTy
namespace Go.Proofs.Ytnhmeckhlajeaaa
open Go Go.RowKit Go.Shelf
set_option linter.unusedVariables false
set_option maxRecDepth 100000
set_option maxHeartbeats 1000000
/-- slices.Repeat[[]int,int]: what its code does. -/
def sh_slices_Repeat_ (Ax : Option Addr) (lx : Nat) (cx : Nat) (count : Int) (w : World) (R : Option Addr → Nat → Nat → World → Prop) : Prop :=
(∃ J2 : World → Prop, (∀ (w2 : World), J2 w2 → (InK .u64 ((lx : Nat) : Int) ∧
(InK .u64 count ∧
(Calls Try.prog 164 #[(Value.int .u64 ((lx : Nat) : Int)), (Value.int .u64 count)] w2 fun e w3 => ∃ r : Int, ∃ r2 : Int, e = .returned (Value.tuple #[(Value.int .u64 r), (Value.int .u64 r2)]) ∧
(∃ J3 : World → Prop, (∀ (w4 : World), J3 w4 → (In64 r2 ∧
((0 ≤ r2 ∧ r2 ≤ 1000000) ∧
∀ (g : Nat) (w5 : World), New w4 g w5 (Array.replicate r2.toNat (Value.int .i64 0)) 3 →
(∃ (bl o : Nat) (ad : Addr) (nw : List Value), ((some ⟨g, 0, none⟩) : Option Addr) = some ⟨bl, o, none⟩ ∧ Ax = some ad ∧ nw.length = min lx r2.toNat ∧ (∀ j u, nw[j]? = some u → w5.cell? (ad.add j) = some u) ∧ (∀ u ∈ nw, u.oneCell' = true) ∧ w5.there bl o nw.length ∧
∀ w6, w6 = w5.setCells bl o nw →
(∃ I2 : Nat → Int → World → Prop, (∃ m0, I2 m0 ((min lx r2.toNat : Nat) : Int) w6) ∧ ∀ (m1 : Nat) (n : Int) (w7 : World), I2 m1 n w7 → 
((n < ((r2.toNat : Nat) : Int) →
((0 ≤ n ∧ n ≤ ((r2.toNat : Nat) : Int)) ∧
((0 ≤ n ∧ n ≤ ((r2.toNat : Nat) : Int)) ∧
(∃ (bl2 o2 : Nat) (ad2 : Addr) (nw2 : List Value), ((slA (some ⟨g, 0, none⟩) r2.toNat n.toNat 1) : Option Addr) = some ⟨bl2, o2, none⟩ ∧ (some ⟨g, 0, none⟩) = some ad2 ∧ nw2.length = min (n.toNat) (r2.toNat - n.toNat) ∧ (∀ j u, nw2[j]? = some u → w7.drew.cell? (ad2.add j) = some u) ∧ (∀ u ∈ nw2, u.oneCell' = true) ∧ w7.drew.there bl2 o2 nw2.length ∧
∀ w8, w8 = w7.drew.setCells bl2 o2 nw2 →
(In64 (n + ((min (n.toNat) (r2.toNat - n.toNat) : Nat) : Int)) ∧
∃ m2, m2 < m1 ∧ I2 m2 (n + ((min (n.toNat) (r2.toNat - n.toNat) : Nat) : Int)) w8))))) ∧
(¬ (n < ((r2.toNat : Nat) : Int)) →
R (some ⟨g, 0, none⟩) r2.toNat r2.toNat w7))))))) ∧
((0 < r →
False) ∧
(¬ (0 < r) →
((9223372036854775807 < r2 →
False) ∧
(¬ (9223372036854775807 < r2) →
J3 w3))))))))) ∧
((count < 0 →
False) ∧
(¬ (count < 0) →
J2 w)))
theorem ok_slices_Repeat_ (Ax : Option Addr) (lx : Nat) (cx : Nat) (count : Int) (w : World) (R : Option Addr → Nat → Nat → World → Prop) (h : sh_slices_Repeat_ Ax lx cx count w R) :
    Calls Try.prog 147 #[(Value.slice Ax lx cx), (Value.int .i64 count)] w fun e w' => ∃ Ar : Option Addr, ∃ lr : Nat, ∃ cr : Nat, e = .returned (Value.slice Ar lr cr) ∧ R Ar lr cr w' := by
  unfold sh_slices_Repeat_ at h
  refine calls_sh (l := [(Value.slice Ax lx cx), (Value.int .i64 count)]) Try.func147 rfl Try.ntmps147 (Nat.le_of_ble_eq_true rfl) ?_
  refine wt_seq ?_
  refine wl_region wd_wide ?_
  refine rl_q rfl rfl rfl (v_assign (v := (Value.slice none 0 0)) rfl) ?_
  refine rl_end ?_
  refine wt_seq ?_
  refine wt_seq ?_
  refine wl_region wd_wide ?_
  refine rl_q rfl rfl rfl (v_move (v := (Value.int .i64 count)) rfl) ?_
  refine rl_q rfl rfl rfl (v_lss rfl rfl) ?_
  refine rl_end ?_
  obtain ⟨J2, hJ, h⟩ := h
  refine wt_cutT0 (fun E ds w' => J2 w' ∧ ds = [] ∧ E 0 = (Value.slice Ax lx cx) ∧ E 1 = (Value.int .i64 count)) ?_ ?_
  · rintro E ds w2 ⟨h, rfl, hE0, hE1⟩
    replace h := hJ w2 h
    refine wt_seq ?_
    refine wl_region wd_wide ?_
    refine rl_q rfl rfl rfl (v_move (v := (Value.slice Ax lx cx)) hE0) ?_
    refine rl_q rfl rfl rfl (v_len rfl Try.underlying25) ?_
    obtain ⟨hi, h⟩ := h
    refine rl_q rfl rfl rfl (v_convk rfl Try.underlying3 Try.underlying178 hi) ?_
    refine rl_q rfl rfl rfl (v_move (v := (Value.int .i64 count)) hE1) ?_
    obtain ⟨hi2, h⟩ := h
    refine rl_q rfl rfl rfl (v_convk rfl Try.underlying3 Try.underlying178 hi2) ?_
    refine rl_n rfl rfl rfl rfl (n_call0 rfl (am2 rfl rfl) enter_164 (h.mono ?_))
    rintro _ w3 ⟨r, r2, rfl, h⟩
    refine ⟨_, rfl, Stb.none _, ?_⟩
    refine rl_q rfl rfl rfl (v_move (v := (Value.tuple #[(Value.int .u64 r), (Value.int .u64 r2)])) rfl) ?_
    refine rl_q rfl rfl rfl (v_extract (v := (Value.int .u64 r)) rfl rfl) ?_
    refine rl_q rfl rfl rfl (v_extract (v := (Value.int .u64 r2)) rfl rfl) ?_
    refine rl_q rfl rfl rfl (v_assign (v := (Value.int .u64 r)) rfl) ?_
    refine rl_q rfl rfl rfl (v_assign (v := (Value.int .u64 r2)) rfl) ?_
    refine rl_end ?_
    refine wt_seq ?_
    refine wt_seq ?_
    obtain ⟨J3, hJ, h⟩ := h
    refine wt_cutT1 (fun E ds w' => J3 w' ∧ ds = [] ∧ E 0 = (Value.slice Ax lx cx) ∧ E 6 = (Value.int .u64 r2)) ?_ ?_
    · rintro E ds w4 ⟨h, rfl, hE0, hE6⟩
      replace h := hJ w4 h
      refine wt_seq ?_
      refine wl_region wd_wide ?_
      refine rl_q rfl rfl rfl (v_move (v := (Value.int .u64 r2)) hE6) ?_
      obtain ⟨hi3, h⟩ := h
      refine rl_q rfl rfl rfl (v_conv rfl Try.underlying178 Try.underlying3 hi3) ?_
      obtain ⟨hn, h⟩ := h
      refine rl_n rfl rfl rfl rfl (n_make rfl rfl Try.underlying25 info_3 (by decide) rfl hn ?_)
      intro g w5 hN
      replace h := h g w5 hN
      clear hN
      refine ⟨Stb.none _, ?_⟩
      refine rl_q rfl rfl rfl (v_assign (v := (Value.slice (some ⟨g, 0, none⟩) r2.toNat r2.toNat)) rfl) ?_
      refine rl_end ?_
      refine wt_seq ?_
      refine wl_region wd_wide ?_
      refine rl_q rfl rfl rfl (v_move (v := (Value.slice (some ⟨g, 0, none⟩) r2.toNat r2.toNat)) rfl) ?_
      refine rl_q rfl rfl rfl (v_move (v := (Value.slice Ax lx cx)) hE0) ?_
      obtain ⟨bl, o, ad, nw, q1, q2, q3, q4, q5, q6, h⟩ := h
      refine rl_n rfl rfl rfl rfl (n_copy rfl rfl Try.underlying25 info_3 ⟨bl, o, ad, nw, q1, q2, q3, q4, q5, q6, ?_⟩)
      intro w6 ew
      replace h := h w6 ew
      clear ew q1 q2 q3 q4 q5 q6
      refine ⟨Stb.none _, ?_⟩
      refine rl_q rfl rfl rfl (v_assign (v := (Value.int .i64 ((min lx r2.toNat : Nat) : Int))) rfl) ?_
      refine rl_end ?_
      refine wt_seq ?_
      refine wt_block ?_
      obtain ⟨I2, ⟨m0, h0⟩, hr⟩ := h
      refine wt_loop (fun m E ds w' => ∃ n : Int, I2 m n w' ∧ ds = [] ∧ E 7 = (Value.slice (some ⟨g, 0, none⟩) r2.toNat r2.toNat) ∧ E 8 = (Value.int .i64 n)) m0 ⟨_, h0, rfl, rfl, rfl⟩ ?_
      clear h0
      rintro m1 E ds w7 ⟨n, h, rfl, hE7, hE8⟩ again
      replace h := hr m1 n w7 h
      clear hr
      refine wt_seq ?_
      refine wt_seq ?_
      refine wl_region wd_wide ?_
      refine rl_q rfl rfl rfl (v_move (v := (Value.int .i64 n)) hE8) ?_
      refine rl_q rfl rfl rfl (v_move (v := (Value.slice (some ⟨g, 0, none⟩) r2.toNat r2.toNat)) hE7) ?_
      refine rl_q rfl rfl rfl (v_len rfl Try.underlying25) ?_
      refine rl_q rfl rfl rfl (v_lss rfl rfl) ?_
      refine rl_end ?_
      by_cases hp : n < ((r2.toNat : Nat) : Int)
      · replace h := h.1 hp
        refine wt_cond_t (congrArg Value.bool (decide_eq_true hp)) ?_
        refine wt_skip ?_
        refine wt_block ?_
        refine wp_draw [0, 1, 2, 3, 4, 5, 6, 7, 8, 9] (fun i => match i with | 7 => [0] | _ => []) wd_wide (by kernel_rfl) (by kernel_rfl) ?_
        refine rp_q rfl rfl rfl (v_move (v := (Value.int .i64 n)) hE8) ?_
        refine rp_q rfl rfl rfl (v_move (v := (Value.slice (some ⟨g, 0, none⟩) r2.toNat r2.toNat)) hE7) ?_
        refine rp_q rfl rfl rfl (v_move (v := (Value.int .i64 n)) hE8) ?_
        obtain ⟨hs, h⟩ := h
        refine rp_q rfl rfl rfl (v_slice_l rfl rfl Try.underlying25 info_3 hs) ?_
        refine rp_q rfl rfl rfl (v_move (v := (Value.slice (some ⟨g, 0, none⟩) r2.toNat r2.toNat)) hE7) ?_
        refine rp_q rfl rfl rfl (v_move (v := (Value.int .i64 n)) hE8) ?_
        obtain ⟨hs2, h⟩ := h
        refine rp_q rfl rfl rfl (v_slice_h rfl rfl Try.underlying25 info_3 hs2) ?_
        obtain ⟨bl2, o2, ad2, nw2, q1, q2, q3, q4, q5, q6, h⟩ := h
        refine rp_n rfl rfl rfl rfl (n_copy rfl rfl Try.underlying25 info_3 ⟨bl2, o2, ad2, nw2, q1, q2, q3, q4, q5, q6, ?_⟩)
        intro w8 ew2
        replace h := h w8 ew2
        clear ew2 q1 q2 q3 q4 q5 q6
        refine ⟨⟨fun hh => Bool.noConfusion (show false = true from hh), ⟨fun hh => Bool.noConfusion (show false = true from hh), ⟨fun hh => Bool.noConfusion (show false = true from hh), ⟨fun hh => Bool.noConfusion (show false = true from hh), ⟨fun hh => Bool.noConfusion (show false = true from hh), ⟨fun hh => Bool.noConfusion (show false = true from hh), ⟨fun _ => (v_move (v := (Value.int .i64 n)) hE8), trivial⟩⟩⟩⟩⟩⟩⟩, ?_⟩
        obtain ⟨hi4, h⟩ := h
        refine rp_q rfl rfl rfl (v_add rfl rfl hi4) ?_
        refine rp_q rfl rfl rfl (v_assign (v := (Value.int .i64 (n + ((min (n.toNat) (r2.toNat - n.toNat) : Nat) : Int)))) rfl) ?_
        refine rp_end ?_
        refine wt_inBlock ?_
        obtain ⟨mq, hlt, h⟩ := h
        exact again mq _ _ _ ⟨_, h, rfl, hE7, rfl⟩ hlt
      · replace h := h.2 hp
        refine wt_cond_f (congrArg Value.bool (decide_eq_false hp)) ?_
        refine wt_exit rfl ?_
        refine wt_seq ?_
        refine wl_region wd_wide ?_
        refine rl_q rfl rfl rfl (v_move (v := (Value.slice (some ⟨g, 0, none⟩) r2.toNat r2.toNat)) hE7) ?_
        refine rl_q rfl rfl rfl (v_assign (v := (Value.slice (some ⟨g, 0, none⟩) r2.toNat r2.toNat)) rfl) ?_
        refine rl_end ?_
        exact wt_ret1 rfl rfl ⟨_, _, _, rfl, h⟩
    clear hJ
    intro j2
    refine wl_region wd_wide ?_
    refine rl_q rfl rfl rfl (v_move (v := (Value.int .u64 r)) rfl) ?_
    refine rl_q rfl rfl rfl (v_gtr rfl rfl) ?_
    refine rl_q rfl rfl rfl (v_move (v := (Value.bool (decide (0 < r)))) rfl) ?_
    by_cases hp2 : 0 < r
    · replace h := h.1 hp2
      refine rl_p (wanted_n rfl (yE_of rfl (congrArg Value.bool (decide_eq_true hp2))) rfl) rfl ?_
      refine rl_p (wanted_n rfl (yE_of rfl (congrArg Value.bool (decide_eq_true hp2))) rfl) rfl ?_
      refine rl_q rfl rfl rfl (v_pick_t (v := (Value.bool (true))) (congrArg Value.bool (decide_eq_true hp2)) rfl) ?_
      refine rl_end ?_
      refine wt_cond_t rfl ?_
      refine wl_region wd_wide ?_
      exact h.elim
    · replace h := h.2 hp2
      refine rl_q (wanted_g rfl (yE_of rfl (congrArg Value.bool (decide_eq_false hp2)))) rfl rfl (v_move (v := (Value.int .u64 r2)) rfl) ?_
      refine rl_q (wanted_g rfl (yE_of rfl (congrArg Value.bool (decide_eq_false hp2)))) rfl rfl (v_gtr rfl rfl) ?_
      refine rl_q rfl rfl rfl (v_pick_f (v := (Value.bool (decide (9223372036854775807 < r2)))) (congrArg Value.bool (decide_eq_false hp2)) rfl) ?_
      refine rl_end ?_
      by_cases hp3 : 9223372036854775807 < r2
      · replace h := h.1 hp3
        refine wt_cond_t (congrArg Value.bool (decide_eq_true hp3)) ?_
        refine wl_region wd_wide ?_
        exact h.elim
      · replace h := h.2 hp3
        refine wt_cond_f (congrArg Value.bool (decide_eq_false hp3)) ?_
        refine wt_skip ?_
        exact j2 _ _ _ ⟨h, rfl, hE0, rfl⟩
  clear hJ
  intro j
  by_cases hp4 : count < 0
  · replace h := h.1 hp4
    refine wt_cond_t (congrArg Value.bool (decide_eq_true hp4)) ?_
    refine wl_region wd_wide ?_
    exact h.elim
  · replace h := h.2 hp4
    refine wt_cond_f (congrArg Value.bool (decide_eq_false hp4)) ?_
    refine wt_skip ?_
    exact j _ _ _ ⟨h, rfl, rfl, rfl⟩

/-- math/bits.Mul: what its code does. -/
def sh_math_bits_Mul (x : Int) (y : Int) (w : World) (R : Int → Int → World → Prop) : Prop :=
(Calls Try.prog 175 #[(Value.int .u64 x), (Value.int .u64 y)] w fun e w2 => ∃ r3 : Int, ∃ r4 : Int, e = .returned (Value.tuple #[(Value.int .u64 r3), (Value.int .u64 r4)]) ∧
R r3 r4 w2)
theorem ok_math_bits_Mul (x : Int) (y : Int) (w : World) (R : Int → Int → World → Prop) (h : sh_math_bits_Mul x y w R) :
    Calls Try.prog 164 #[(Value.int .u64 x), (Value.int .u64 y)] w fun e w' => ∃ r : Int, ∃ r2 : Int, e = .returned (Value.tuple #[(Value.int .u64 r), (Value.int .u64 r2)]) ∧ R r r2 w' := by
  unfold sh_math_bits_Mul at h
  refine calls_sh (l := [(Value.int .u64 x), (Value.int .u64 y)]) Try.func164 rfl Try.ntmps164 (Nat.le_of_ble_eq_true rfl) ?_
  refine wt_seq ?_
  refine wl_region wd_wide ?_
  refine rl_q rfl rfl rfl (v_assign (v := (Value.int .u64 0)) rfl) ?_
  refine rl_q rfl rfl rfl (v_assign (v := (Value.int .u64 0)) rfl) ?_
  refine rl_end ?_
  refine wt_seq ?_
  refine wt_cond_f rfl ?_
  refine wt_skip ?_
  refine wt_seq ?_
  refine wl_region wd_wide ?_
  refine rl_q rfl rfl rfl (v_move (v := (Value.int .u64 x)) rfl) ?_
  refine rl_q rfl rfl rfl (v_move (v := (Value.int .u64 y)) rfl) ?_
  refine rl_n rfl rfl rfl rfl (n_call0 rfl (am2 rfl rfl) enter_175 (h.mono ?_))
  rintro _ w2 ⟨r3, r4, rfl, h⟩
  refine ⟨_, rfl, Stb.none _, ?_⟩
  refine rl_q rfl rfl rfl (v_move (v := (Value.tuple #[(Value.int .u64 r3), (Value.int .u64 r4)])) rfl) ?_
  refine rl_q rfl rfl rfl (v_extract (v := (Value.int .u64 r3)) rfl rfl) ?_
  refine rl_q rfl rfl rfl (v_extract (v := (Value.int .u64 r4)) rfl rfl) ?_
  refine rl_q rfl rfl rfl (v_assign (v := (Value.int .u64 r3)) rfl) ?_
  refine rl_q rfl rfl rfl (v_assign (v := (Value.int .u64 r4)) rfl) ?_
  refine rl_end ?_
  refine wt_seq ?_
  refine wl_region wd_wide ?_
  refine rl_q rfl rfl rfl (v_move (v := (Value.int .u64 r3)) rfl) ?_
  refine rl_q rfl rfl rfl (v_move (v := (Value.int .u64 r4)) rfl) ?_
  refine rl_q rfl rfl rfl (v_assign (v := (Value.int .u64 r3)) rfl) ?_
  refine rl_q rfl rfl rfl (v_assign (v := (Value.int .u64 r4)) rfl) ?_
  refine rl_end ?_
  exact wt_ret2 rfl rfl rfl ⟨_, _, rfl, h⟩

/-- math/bits.Mul64: what its code does. -/
def sh_math_bits_Mul64 (x : Int) (y : Int) (w : World) (R : Int → Int → World → Prop) : Prop :=
((0 ≤ x ∧ x < 18446744073709551616 ∧ 0 ≤ (4294967295 : Int) ∧ (4294967295 : Int) < 18446744073709551616) ∧
((0 ≤ (32 : Int) ∧ (32 : Int) < 64) ∧
((0 ≤ y ∧ y < 18446744073709551616 ∧ 0 ≤ (4294967295 : Int) ∧ (4294967295 : Int) < 18446744073709551616) ∧
((0 ≤ (32 : Int) ∧ (32 : Int) < 64) ∧
(InK .u64 (((x.toNat &&& (4294967295 : Int).toNat : Nat) : Int) * ((y.toNat &&& (4294967295 : Int).toNat : Nat) : Int)) ∧
(InK .u64 ((x / 2 ^ (32 : Int).toNat) * ((y.toNat &&& (4294967295 : Int).toNat : Nat) : Int)) ∧
((0 ≤ (32 : Int) ∧ (32 : Int) < 64) ∧
(InK .u64 (((x / 2 ^ (32 : Int).toNat) * ((y.toNat &&& (4294967295 : Int).toNat : Nat) : Int)) + ((((x.toNat &&& (4294967295 : Int).toNat : Nat) : Int) * ((y.toNat &&& (4294967295 : Int).toNat : Nat) : Int)) / 2 ^ (32 : Int).toNat)) ∧
((0 ≤ (((x / 2 ^ (32 : Int).toNat) * ((y.toNat &&& (4294967295 : Int).toNat : Nat) : Int)) + ((((x.toNat &&& (4294967295 : Int).toNat : Nat) : Int) * ((y.toNat &&& (4294967295 : Int).toNat : Nat) : Int)) / 2 ^ (32 : Int).toNat)) ∧ (((x / 2 ^ (32 : Int).toNat) * ((y.toNat &&& (4294967295 : Int).toNat : Nat) : Int)) + ((((x.toNat &&& (4294967295 : Int).toNat : Nat) : Int) * ((y.toNat &&& (4294967295 : Int).toNat : Nat) : Int)) / 2 ^ (32 : Int).toNat)) < 18446744073709551616 ∧ 0 ≤ (4294967295 : Int) ∧ (4294967295 : Int) < 18446744073709551616) ∧
((0 ≤ (32 : Int) ∧ (32 : Int) < 64) ∧
(InK .u64 (((x.toNat &&& (4294967295 : Int).toNat : Nat) : Int) * (y / 2 ^ (32 : Int).toNat)) ∧
(InK .u64 ((((((x / 2 ^ (32 : Int).toNat) * ((y.toNat &&& (4294967295 : Int).toNat : Nat) : Int)) + ((((x.toNat &&& (4294967295 : Int).toNat : Nat) : Int) * ((y.toNat &&& (4294967295 : Int).toNat : Nat) : Int)) / 2 ^ (32 : Int).toNat)).toNat &&& (4294967295 : Int).toNat : Nat) : Int) + (((x.toNat &&& (4294967295 : Int).toNat : Nat) : Int) * (y / 2 ^ (32 : Int).toNat))) ∧
(InK .u64 ((x / 2 ^ (32 : Int).toNat) * (y / 2 ^ (32 : Int).toNat)) ∧
(InK .u64 (((x / 2 ^ (32 : Int).toNat) * (y / 2 ^ (32 : Int).toNat)) + ((((x / 2 ^ (32 : Int).toNat) * ((y.toNat &&& (4294967295 : Int).toNat : Nat) : Int)) + ((((x.toNat &&& (4294967295 : Int).toNat : Nat) : Int) * ((y.toNat &&& (4294967295 : Int).toNat : Nat) : Int)) / 2 ^ (32 : Int).toNat)) / 2 ^ (32 : Int).toNat)) ∧
((0 ≤ (32 : Int) ∧ (32 : Int) < 64) ∧
(InK .u64 ((((x / 2 ^ (32 : Int).toNat) * (y / 2 ^ (32 : Int).toNat)) + ((((x / 2 ^ (32 : Int).toNat) * ((y.toNat &&& (4294967295 : Int).toNat : Nat) : Int)) + ((((x.toNat &&& (4294967295 : Int).toNat : Nat) : Int) * ((y.toNat &&& (4294967295 : Int).toNat : Nat) : Int)) / 2 ^ (32 : Int).toNat)) / 2 ^ (32 : Int).toNat)) + (((((((x / 2 ^ (32 : Int).toNat) * ((y.toNat &&& (4294967295 : Int).toNat : Nat) : Int)) + ((((x.toNat &&& (4294967295 : Int).toNat : Nat) : Int) * ((y.toNat &&& (4294967295 : Int).toNat : Nat) : Int)) / 2 ^ (32 : Int).toNat)).toNat &&& (4294967295 : Int).toNat : Nat) : Int) + (((x.toNat &&& (4294967295 : Int).toNat : Nat) : Int) * (y / 2 ^ (32 : Int).toNat))) / 2 ^ (32 : Int).toNat)) ∧
(InK .u64 (x * y) ∧
R ((((x / 2 ^ (32 : Int).toNat) * (y / 2 ^ (32 : Int).toNat)) + ((((x / 2 ^ (32 : Int).toNat) * ((y.toNat &&& (4294967295 : Int).toNat : Nat) : Int)) + ((((x.toNat &&& (4294967295 : Int).toNat : Nat) : Int) * ((y.toNat &&& (4294967295 : Int).toNat : Nat) : Int)) / 2 ^ (32 : Int).toNat)) / 2 ^ (32 : Int).toNat)) + (((((((x / 2 ^ (32 : Int).toNat) * ((y.toNat &&& (4294967295 : Int).toNat : Nat) : Int)) + ((((x.toNat &&& (4294967295 : Int).toNat : Nat) : Int) * ((y.toNat &&& (4294967295 : Int).toNat : Nat) : Int)) / 2 ^ (32 : Int).toNat)).toNat &&& (4294967295 : Int).toNat : Nat) : Int) + (((x.toNat &&& (4294967295 : Int).toNat : Nat) : Int) * (y / 2 ^ (32 : Int).toNat))) / 2 ^ (32 : Int).toNat)) (x * y) w)))))))))))))))))
theorem ok_math_bits_Mul64 (x : Int) (y : Int) (w : World) (R : Int → Int → World → Prop) (h : sh_math_bits_Mul64 x y w R) :
    Calls Try.prog 175 #[(Value.int .u64 x), (Value.int .u64 y)] w fun e w' => ∃ r : Int, ∃ r2 : Int, e = .returned (Value.tuple #[(Value.int .u64 r), (Value.int .u64 r2)]) ∧ R r r2 w' := by
  unfold sh_math_bits_Mul64 at h
  refine calls_sh (l := [(Value.int .u64 x), (Value.int .u64 y)]) Try.func175 rfl Try.ntmps175 (Nat.le_of_ble_eq_true rfl) ?_
  refine wt_seq ?_
  refine wl_region wd_wide ?_
  refine rl_q rfl rfl rfl (v_assign (v := (Value.int .u64 0)) rfl) ?_
  refine rl_q rfl rfl rfl (v_assign (v := (Value.int .u64 0)) rfl) ?_
  refine rl_end ?_
  refine wt_seq ?_
  refine wl_region wd_wide ?_
  refine rl_q rfl rfl rfl (v_move (v := (Value.int .u64 x)) rfl) ?_
  obtain ⟨hz, h⟩ := h
  refine rl_q rfl rfl rfl (v_andu rfl rfl hz) ?_
  refine rl_q rfl rfl rfl (v_assign (v := (Value.int .u64 ((x.toNat &&& (4294967295 : Int).toNat : Nat) : Int))) rfl) ?_
  refine rl_end ?_
  refine wt_seq ?_
  refine wl_region wd_wide ?_
  refine rl_q rfl rfl rfl (v_move (v := (Value.int .u64 x)) rfl) ?_
  obtain ⟨hz2, h⟩ := h
  refine rl_q rfl rfl rfl (v_shru rfl rfl hz2) ?_
  refine rl_q rfl rfl rfl (v_assign (v := (Value.int .u64 (x / 2 ^ (32 : Int).toNat))) rfl) ?_
  refine rl_end ?_
  refine wt_seq ?_
  refine wl_region wd_wide ?_
  refine rl_q rfl rfl rfl (v_move (v := (Value.int .u64 y)) rfl) ?_
  obtain ⟨hz3, h⟩ := h
  refine rl_q rfl rfl rfl (v_andu rfl rfl hz3) ?_
  refine rl_q rfl rfl rfl (v_assign (v := (Value.int .u64 ((y.toNat &&& (4294967295 : Int).toNat : Nat) : Int))) rfl) ?_
  refine rl_end ?_
  refine wt_seq ?_
  refine wl_region wd_wide ?_
  refine rl_q rfl rfl rfl (v_move (v := (Value.int .u64 y)) rfl) ?_
  obtain ⟨hz4, h⟩ := h
  refine rl_q rfl rfl rfl (v_shru rfl rfl hz4) ?_
  refine rl_q rfl rfl rfl (v_assign (v := (Value.int .u64 (y / 2 ^ (32 : Int).toNat))) rfl) ?_
  refine rl_end ?_
  refine wt_seq ?_
  refine wl_region wd_wide ?_
  refine rl_q rfl rfl rfl (v_move (v := (Value.int .u64 ((x.toNat &&& (4294967295 : Int).toNat : Nat) : Int))) rfl) ?_
  refine rl_q rfl rfl rfl (v_move (v := (Value.int .u64 ((y.toNat &&& (4294967295 : Int).toNat : Nat) : Int))) rfl) ?_
  obtain ⟨hi, h⟩ := h
  refine rl_q rfl rfl rfl (v_mulk rfl rfl hi) ?_
  refine rl_q rfl rfl rfl (v_assign (v := (Value.int .u64 (((x.toNat &&& (4294967295 : Int).toNat : Nat) : Int) * ((y.toNat &&& (4294967295 : Int).toNat : Nat) : Int)))) rfl) ?_
  refine rl_end ?_
  refine wt_seq ?_
  refine wl_region wd_wide ?_
  refine rl_q rfl rfl rfl (v_move (v := (Value.int .u64 (x / 2 ^ (32 : Int).toNat))) rfl) ?_
  refine rl_q rfl rfl rfl (v_move (v := (Value.int .u64 ((y.toNat &&& (4294967295 : Int).toNat : Nat) : Int))) rfl) ?_
  obtain ⟨hi2, h⟩ := h
  refine rl_q rfl rfl rfl (v_mulk rfl rfl hi2) ?_
  refine rl_q rfl rfl rfl (v_move (v := (Value.int .u64 (((x.toNat &&& (4294967295 : Int).toNat : Nat) : Int) * ((y.toNat &&& (4294967295 : Int).toNat : Nat) : Int)))) rfl) ?_
  obtain ⟨hz5, h⟩ := h
  refine rl_q rfl rfl rfl (v_shru rfl rfl hz5) ?_
  obtain ⟨hi3, h⟩ := h
  refine rl_q rfl rfl rfl (v_addk rfl rfl hi3) ?_
  refine rl_q rfl rfl rfl (v_assign (v := (Value.int .u64 (((x / 2 ^ (32 : Int).toNat) * ((y.toNat &&& (4294967295 : Int).toNat : Nat) : Int)) + ((((x.toNat &&& (4294967295 : Int).toNat : Nat) : Int) * ((y.toNat &&& (4294967295 : Int).toNat : Nat) : Int)) / 2 ^ (32 : Int).toNat)))) rfl) ?_
  refine rl_end ?_
  refine wt_seq ?_
  refine wl_region wd_wide ?_
  refine rl_q rfl rfl rfl (v_move (v := (Value.int .u64 (((x / 2 ^ (32 : Int).toNat) * ((y.toNat &&& (4294967295 : Int).toNat : Nat) : Int)) + ((((x.toNat &&& (4294967295 : Int).toNat : Nat) : Int) * ((y.toNat &&& (4294967295 : Int).toNat : Nat) : Int)) / 2 ^ (32 : Int).toNat)))) rfl) ?_
  obtain ⟨hz6, h⟩ := h
  refine rl_q rfl rfl rfl (v_andu rfl rfl hz6) ?_
  refine rl_q rfl rfl rfl (v_assign (v := (Value.int .u64 (((((x / 2 ^ (32 : Int).toNat) * ((y.toNat &&& (4294967295 : Int).toNat : Nat) : Int)) + ((((x.toNat &&& (4294967295 : Int).toNat : Nat) : Int) * ((y.toNat &&& (4294967295 : Int).toNat : Nat) : Int)) / 2 ^ (32 : Int).toNat)).toNat &&& (4294967295 : Int).toNat : Nat) : Int))) rfl) ?_
  refine rl_end ?_
  refine wt_seq ?_
  refine wl_region wd_wide ?_
  refine rl_q rfl rfl rfl (v_move (v := (Value.int .u64 (((x / 2 ^ (32 : Int).toNat) * ((y.toNat &&& (4294967295 : Int).toNat : Nat) : Int)) + ((((x.toNat &&& (4294967295 : Int).toNat : Nat) : Int) * ((y.toNat &&& (4294967295 : Int).toNat : Nat) : Int)) / 2 ^ (32 : Int).toNat)))) rfl) ?_
  obtain ⟨hz7, h⟩ := h
  refine rl_q rfl rfl rfl (v_shru rfl rfl hz7) ?_
  refine rl_q rfl rfl rfl (v_assign (v := (Value.int .u64 ((((x / 2 ^ (32 : Int).toNat) * ((y.toNat &&& (4294967295 : Int).toNat : Nat) : Int)) + ((((x.toNat &&& (4294967295 : Int).toNat : Nat) : Int) * ((y.toNat &&& (4294967295 : Int).toNat : Nat) : Int)) / 2 ^ (32 : Int).toNat)) / 2 ^ (32 : Int).toNat))) rfl) ?_
  refine rl_end ?_
  refine wt_seq ?_
  refine wl_region wd_wide ?_
  refine rl_q rfl rfl rfl (v_move (v := (Value.int .u64 (((((x / 2 ^ (32 : Int).toNat) * ((y.toNat &&& (4294967295 : Int).toNat : Nat) : Int)) + ((((x.toNat &&& (4294967295 : Int).toNat : Nat) : Int) * ((y.toNat &&& (4294967295 : Int).toNat : Nat) : Int)) / 2 ^ (32 : Int).toNat)).toNat &&& (4294967295 : Int).toNat : Nat) : Int))) rfl) ?_
  refine rl_q rfl rfl rfl (v_move (v := (Value.int .u64 ((x.toNat &&& (4294967295 : Int).toNat : Nat) : Int))) rfl) ?_
  refine rl_q rfl rfl rfl (v_move (v := (Value.int .u64 (y / 2 ^ (32 : Int).toNat))) rfl) ?_
  obtain ⟨hi4, h⟩ := h
  refine rl_q rfl rfl rfl (v_mulk rfl rfl hi4) ?_
  obtain ⟨hi5, h⟩ := h
  refine rl_q rfl rfl rfl (v_addk rfl rfl hi5) ?_
  refine rl_q rfl rfl rfl (v_assign (v := (Value.int .u64 ((((((x / 2 ^ (32 : Int).toNat) * ((y.toNat &&& (4294967295 : Int).toNat : Nat) : Int)) + ((((x.toNat &&& (4294967295 : Int).toNat : Nat) : Int) * ((y.toNat &&& (4294967295 : Int).toNat : Nat) : Int)) / 2 ^ (32 : Int).toNat)).toNat &&& (4294967295 : Int).toNat : Nat) : Int) + (((x.toNat &&& (4294967295 : Int).toNat : Nat) : Int) * (y / 2 ^ (32 : Int).toNat))))) rfl) ?_
  refine rl_end ?_
  refine wt_seq ?_
  refine wl_region wd_wide ?_
  refine rl_q rfl rfl rfl (v_move (v := (Value.int .u64 (x / 2 ^ (32 : Int).toNat))) rfl) ?_
  refine rl_q rfl rfl rfl (v_move (v := (Value.int .u64 (y / 2 ^ (32 : Int).toNat))) rfl) ?_
  obtain ⟨hi6, h⟩ := h
  refine rl_q rfl rfl rfl (v_mulk rfl rfl hi6) ?_
  refine rl_q rfl rfl rfl (v_move (v := (Value.int .u64 ((((x / 2 ^ (32 : Int).toNat) * ((y.toNat &&& (4294967295 : Int).toNat : Nat) : Int)) + ((((x.toNat &&& (4294967295 : Int).toNat : Nat) : Int) * ((y.toNat &&& (4294967295 : Int).toNat : Nat) : Int)) / 2 ^ (32 : Int).toNat)) / 2 ^ (32 : Int).toNat))) rfl) ?_
  obtain ⟨hi7, h⟩ := h
  refine rl_q rfl rfl rfl (v_addk rfl rfl hi7) ?_
  refine rl_q rfl rfl rfl (v_move (v := (Value.int .u64 ((((((x / 2 ^ (32 : Int).toNat) * ((y.toNat &&& (4294967295 : Int).toNat : Nat) : Int)) + ((((x.toNat &&& (4294967295 : Int).toNat : Nat) : Int) * ((y.toNat &&& (4294967295 : Int).toNat : Nat) : Int)) / 2 ^ (32 : Int).toNat)).toNat &&& (4294967295 : Int).toNat : Nat) : Int) + (((x.toNat &&& (4294967295 : Int).toNat : Nat) : Int) * (y / 2 ^ (32 : Int).toNat))))) rfl) ?_
  obtain ⟨hz8, h⟩ := h
  refine rl_q rfl rfl rfl (v_shru rfl rfl hz8) ?_
  obtain ⟨hi8, h⟩ := h
  refine rl_q rfl rfl rfl (v_addk rfl rfl hi8) ?_
  refine rl_q rfl rfl rfl (v_assign (v := (Value.int .u64 ((((x / 2 ^ (32 : Int).toNat) * (y / 2 ^ (32 : Int).toNat)) + ((((x / 2 ^ (32 : Int).toNat) * ((y.toNat &&& (4294967295 : Int).toNat : Nat) : Int)) + ((((x.toNat &&& (4294967295 : Int).toNat : Nat) : Int) * ((y.toNat &&& (4294967295 : Int).toNat : Nat) : Int)) / 2 ^ (32 : Int).toNat)) / 2 ^ (32 : Int).toNat)) + (((((((x / 2 ^ (32 : Int).toNat) * ((y.toNat &&& (4294967295 : Int).toNat : Nat) : Int)) + ((((x.toNat &&& (4294967295 : Int).toNat : Nat) : Int) * ((y.toNat &&& (4294967295 : Int).toNat : Nat) : Int)) / 2 ^ (32 : Int).toNat)).toNat &&& (4294967295 : Int).toNat : Nat) : Int) + (((x.toNat &&& (4294967295 : Int).toNat : Nat) : Int) * (y / 2 ^ (32 : Int).toNat))) / 2 ^ (32 : Int).toNat)))) rfl) ?_
  refine rl_end ?_
  refine wt_seq ?_
  refine wl_region wd_wide ?_
  refine rl_q rfl rfl rfl (v_move (v := (Value.int .u64 x)) rfl) ?_
  refine rl_q rfl rfl rfl (v_move (v := (Value.int .u64 y)) rfl) ?_
  obtain ⟨hi9, h⟩ := h
  refine rl_q rfl rfl rfl (v_mulk rfl rfl hi9) ?_
  refine rl_q rfl rfl rfl (v_assign (v := (Value.int .u64 (x * y))) rfl) ?_
  refine rl_end ?_
  exact wt_ret2 rfl rfl rfl ⟨_, _, rfl, h⟩
end Go.Proofs.Ytnhmeckhlajeaaa
