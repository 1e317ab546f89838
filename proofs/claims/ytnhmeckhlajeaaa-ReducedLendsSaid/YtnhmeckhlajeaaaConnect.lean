/- The walks of package connect's forests, up to Connected. -/
import Derived.Test.YtnhmeckhlajeaaaGraph
import Derived.Test.YtnhmeckhlajeaaaForest
import Derived.Maps.Own
import Derived.Maps.OwnOps
import Derived.Deep.AppendLies
namespace Go.Proofs.Ytnhmeckhlajeaaa
open Go.RowKit Go.Maps
set_option maxRecDepth 100000
set_option maxHeartbeats 400000

theorem root_any (g : Nat) (F : List Nat) (v : Nat) (w : World) (hF : NRow w g 175 12 F) (h : Forest F) (hv : v < 12) :
    Calls Try.prog 173 #[.pointer (some ⟨g, 0, none⟩), .int .i64 (v : Int)] w fun e w' => e = .returned (.int .i64 (root F v : Int)) ∧ w = w' := by
  have H := Lib.hid h
  clear h
  go_enter Try.func173, Try.ntmps173
  go_wp2
  go_loopw [1] (fun i wr => ∃ u : Nat, u < 12 ∧ i = .int .i64 (u : Int) ∧ Hid (root F v = root F u) ∧ Same wr w) (fun i _ => (intOf i).toNat)
  case atStart => exact ⟨v, hv, rfl, rfl, .refl _⟩
  case round =>
    obtain ⟨u, hu, rfl, hr, hw⟩ := hrel
    obtain rfl : wr = w := hw.out
    have hc := ncell hF (k := u) (by rw [H.out.1]; exact hu)
    simp only [Int.ofNat_eq_natCast] at hc
    have hle := H.out.2 u hu
    by_cases he : gn F u = u
    · have hb := neF (a := (gn F u : Int)) (b := (u : Int)) (by rw [he])
      have HE := Lib.hid he
      clear he hw
      go_wp2
      go_ret
      exact ⟨ret_eq (int_eq (by rw [hr.out, root_self HE.out])), rfl⟩
    · have hb := neT (a := (gn F u : Int)) (b := (u : Int)) (by omega)
      clear hw
      go_wp2
      go_roundw
      case rel => exact ⟨gn F u, by omega, rfl, by rw [Hid, hr.out, root_step H.out hu he], .refl _⟩
      case measure => simp [intOf]; omega

theorem join_any (g : Nat) (F : List Nat) (a b : Nat) (w : World) (hF : NRow w g 175 12 F) (h : Forest F) (ha : a < 12) (hb : b < 12) :
    Calls Try.prog 172 #[.pointer (some ⟨g, 0, none⟩), .int .i64 (a : Int), .int .i64 (b : Int)] w fun e w' => e = .returned (.tuple #[]) ∧ NRow w' g 175 12 (joinN F a b) ∧ Keeps (· = g) w w' := by
  have h1 := root_le h a ha
  have h2 := root_le h b hb
  have hfa := Row.frozen hF (root F a)
  have hfb := Row.frozen hF (root F b)
  have hca := ncell hF (k := root F a) (by rw [h.1]; omega)
  have hcb := ncell hF (k := root F b) (by rw [h.1]; omega)
  have l1 : root F a < 12 := by omega
  have l2 : root F b < 12 := by omega
  have H1 := Lib.hid h1
  have H2 := Lib.hid h2
  clear h1 h2
  go_enter Try.func172, Try.ntmps172
  go_wp2_with fail
  refine (root_any g F a _ hF h ha).mono ?_
  rintro e w' ⟨rfl, rfl⟩
  go_wp2_with fail
  refine (root_any g F b _ hF h hb).mono ?_
  rintro e w' ⟨rfl, rfl⟩
  have HF := Lib.hid hF
  clear hF
  go_wp2
  all_goals go_end0
  all_goals (refine ⟨rfl, ?_, (by repeat (first | exact Keeps.refl _ _ | assumption | refine Keeps.drew ?_ | refine Keeps.drewN ?_ _ | refine Keeps.alloc ?_ _ | refine Keeps.setRow ?_ (by simp) _ | refine Keeps.setRow ?_ (by simp; omega) _ | refine Keeps.setCell ?_ (by simp) _ | refine Keeps.setCell ?_ (by simp; omega) _))⟩)
  all_goals (first
    | (rw [show joinN F a b = F.set (root F a) (root F b) by unfold joinN; rw [Nat.max_eq_left (by omega), Nat.min_eq_right (by omega)]]; exact nset HF.out _ _)
    | (rw [show joinN F a b = F.set (root F b) (root F a) by unfold joinN; rw [Nat.max_eq_right (by omega), Nat.min_eq_left (by omega)]]; exact nset HF.out _ _)
    | (rw [show joinN F a b = F.set (root F a) (root F a) by unfold joinN; rw [Nat.max_eq_right (by omega), Nat.min_eq_left (by omega)]; congr 1 <;> omega]; exact nset HF.out _ _))

theorem forest_zero : Array.replicate 12 (Value.int .i64 0) = #[.int .i64 0, .int .i64 0, .int .i64 0, .int .i64 0, .int .i64 0, .int .i64 0, .int .i64 0, .int .i64 0, .int .i64 0, .int .i64 0, .int .i64 0, .int .i64 0] := rfl

/-- A forest as a value. -/
def forestV (F : List Nat) : Value := .agg (nvals F).toArray

theorem grown_any (w : World) :
    Calls Try.prog 171 #[] w fun e w' => e = .returned (forestV grownF) ∧ Pure w w' := by
  go_enter Try.func171, Try.ntmps171
  go_wp2
  refine wp_loop_rounds 13 ?_
  repeat any_goals (rw [rounds_succ]; go_wp2)
  exact bodyPost_ret (v := forestV grownF) (by simp [results, Try.results171, go_sem, forestV, nvals, grownF, List.range, List.range.loop]) rfl ⟨rfl, (by repeat (first | exact Keeps.refl _ _ | assumption | refine Keeps.drew ?_ | refine Keeps.drewN ?_ _ | refine Keeps.alloc ?_ _ | refine Keeps.setRow ?_ (by simp) _ | refine Keeps.setRow ?_ (by simp; omega) _ | refine Keeps.setCell ?_ (by simp) _ | refine Keeps.setCell ?_ (by simp; omega) _))⟩

theorem forestV_lit {F : List Nat} (h : F.length = 12) : ∃ a0 a1 a2 a3 a4 a5 a6 a7 a8 a9 a10 a11 : Nat, F = [a0, a1, a2, a3, a4, a5, a6, a7, a8, a9, a10, a11] := by
  match F, h with
  | [a0, a1, a2, a3, a4, a5, a6, a7, a8, a9, a10, a11], _ => exact ⟨a0, a1, a2, a3, a4, a5, a6, a7, a8, a9, a10, a11, rfl⟩

theorem forest_info : (Try.prog.info? 175).map (·.size) = some 12 := by kernel_rfl

theorem joined_any (A : Option Addr) (es : List E3) (cap : Nat) (n : Int) (w : World) (hd : Edges w A es) (hlen : es.length ≤ 1000000000) (hE : Ends12 es) :
    Calls Try.prog 162 #[.agg #[.int .i64 n, .slice A es.length cap]] w fun e w' => e = .returned (forestV (joinedF es)) ∧ Pure w w' := by
  have HD := Lib.hid hd
  have HE := Lib.hid hE
  clear hd hE
  go_enter Try.func162, Try.ntmps162
  go_wp2_with fail
  refine (grown_any _).mono ?_
  rintro e w1 ⟨rfl, hp1⟩
  have r0 := hp1.row (Row.alloc (Row.new w #[.int .i64 n, .slice A es.length cap] 24) _) id
  have r1 := hp1.row (Row.new (w.alloc (.cells #[.int .i64 n, .slice A es.length cap] 24)) #[.int .i64 0, .int .i64 0, .int .i64 0, .int .i64 0, .int .i64 0, .int .i64 0, .int .i64 0, .int .i64 0, .int .i64 0, .int .i64 0, .int .i64 0, .int .i64 0] 175) id
  rw [World.size_alloc] at r1
  have k0 : Pure w w1 := Pure.after (by repeat (first | exact Keeps.refl _ _ | assumption | refine Keeps.drew ?_ | refine Keeps.drewN ?_ _ | refine Keeps.alloc ?_ _ | refine Keeps.setRow ?_ (by simp) _ | refine Keeps.setRow ?_ (by simp; omega) _ | refine Keeps.setCell ?_ (by simp) _ | refine Keeps.setCell ?_ (by simp; omega) _)) hp1
  have r00 := Row.cell r0 (i := 0) rfl
  have r01 := Row.cell r0 (i := 1) rfl
  have s0 := r0.lt
  have s1 := r1.lt
  unfold forestV nvals grownF
  simp only [List.range, List.range.loop, List.map]
  go_wp2
  have hf0 : NRow (w1.alloc (.cells #[.int .i64 0, .int .i64 1, .int .i64 2, .int .i64 3, .int .i64 4, .int .i64 5, .int .i64 6, .int .i64 7, .int .i64 8, .int .i64 9, .int .i64 10, .int .i64 11] 175)) w1.heap.size 175 12 (joinedF (es.take 0)) :=
    Row.new w1 #[.int .i64 0, .int .i64 1, .int .i64 2, .int .i64 3, .int .i64 4, .int .i64 5, .int .i64 6, .int .i64 7, .int .i64 8, .int .i64 9, .int .i64 10, .int .i64 11] 175
  have g0 := Row.alloc r0 (.cells #[.int .i64 0, .int .i64 1, .int .i64 2, .int .i64 3, .int .i64 4, .int .i64 5, .int .i64 6, .int .i64 7, .int .i64 8, .int .i64 9, .int .i64 10, .int .i64 11] 175)
  have g1 := Row.alloc r1 (.cells #[.int .i64 0, .int .i64 1, .int .i64 2, .int .i64 3, .int .i64 4, .int .i64 5, .int .i64 6, .int .i64 7, .int .i64 8, .int .i64 9, .int .i64 10, .int .i64 11] 175)
  have k1 := Keeps.alloc k0 (.cells #[.int .i64 0, .int .i64 1, .int .i64 2, .int .i64 3, .int .i64 4, .int .i64 5, .int .i64 6, .int .i64 7, .int .i64 8, .int .i64 9, .int .i64 10, .int .i64 11] 175)
  go_loopw [10] (fun i wr => ∃ k : Nat, k ≤ es.length ∧ i = .int .i64 k ∧ NRow wr w1.heap.size 175 12 (joinedF (es.take k)) ∧ Row wr (w.heap.size + 1) 175 12 [.int .i64 0, .int .i64 0, .int .i64 0, .int .i64 0, .int .i64 0, .int .i64 0, .int .i64 0, .int .i64 0, .int .i64 0, .int .i64 0, .int .i64 0, .int .i64 0] ∧ Pure w wr) (fun i _ => es.length - (intOf i).toNat)
  case atStart => exact ⟨0, Nat.zero_le _, rfl, hf0, g1, k1⟩
  clear hf0 g0 g1 k1 r0 r1 k0 r00 r01 hp1
  case round =>
    obtain ⟨k, hk, rfl, hf, hr1, hp⟩ := hrel
    have sM := hf.lt
    by_cases hlt : k < es.length
    · obtain ⟨b, off, rfl, hb, hc⟩ := HD.out (by omega)
      obtain ⟨c0, c1, c2⟩ := hc k hlt
      clear hc
      replace c0 := hp.cell id c0
      replace c1 := hp.cell id c1
      replace c2 := hp.cell id c2
      obtain ⟨x1, x2, x3, x4⟩ := HE.out _ (ge_mem hlt)
      obtain ⟨u, hu⟩ : ∃ u : Nat, (ge es k).1 = (u : Int) := ⟨(ge es k).1.toNat, by omega⟩
      obtain ⟨v, hv⟩ : ∃ v : Nat, (ge es k).2.1 = (v : Int) := ⟨(ge es k).2.1.toNat, by omega⟩
      have hbw : b < wr.heap.size := Nat.lt_of_lt_of_le hb hp.size
      have hT : Hid (joinedF (es.take (k + 1)) = joinN (joinedF (es.take k)) u v) := by rw [Hid, joinedF_take es hlt, hu, hv]; rfl
      rw [hu] at c0 x1 x2
      rw [hv] at c1 x3 x4
      clear hu hv
      go_wp2_with fail
      refine (join_any w1.heap.size (joinedF (es.take k)) u v _ (Row.alloc hf _) (joinedF_forest _ (HE.out.take k)) (by omega) (by omega)).mono ?_
      rintro e w2 ⟨rfl, hf2, hp2⟩
      go_wp2
      go_roundw
      case rel => exact ⟨k + 1, by omega, by go_num, by rw [hT.out]; exact hf2, hp2.row (Row.alloc hr1 _) (by omega), (Keeps.alloc hp _).then hp2 (fun j hj e => by omega)⟩
      case measure => simp [intOf]; omega
    · obtain rfl : k = es.length := by omega
      rw [List.take_length] at hf
      have hL := (joinedF_forest es HE.out).1
      have hfull := NRow.full (xs := joinedF es) (by rw [hL]; exact hf)
      have hold := Row.full (xs := [.int .i64 0, .int .i64 0, .int .i64 0, .int .i64 0, .int .i64 0, .int .i64 0, .int .i64 0, .int .i64 0, .int .i64 0, .int .i64 0, .int .i64 0, .int .i64 0]) hr1
      have hinfo : (Try.prog.info? 175).map (·.size) = some (nvals (joinedF es)).toArray.size := by
        rw [List.size_toArray, nvals_length, hL]; exact forest_info
      have HFU := Lib.hid hfull
      have HOL := Lib.hid hold
      have HIN := Lib.hid hinfo
      clear hfull hold hinfo hL
      go_wp2_with (first
        | (refine wpList_load_row rfl 175 (.tmp 3) rfl w1.heap.size rfl 175 (nvals (joinedF es)).toArray (0, 0) _ HFU.out Try.underlying175 rfl HIN.out ?_)
        | (refine wpList_store_row rfl 175 (.tmp 2) (.tmp 20) rfl (w.heap.size + 1) rfl (nvals (joinedF es)).toArray rfl 175 _ HOL.out (by rw [List.size_toArray, List.size_toArray, nvals_length, (joinedF_forest es HE.out).1]; rfl) HIN.out (nvals_one _) ?_))
      refine bodyPost_ret (results_cell_row rfl _ _ (w.heap.size + 1) 175 (nvals (joinedF es)).toArray (0, 0) _ rfl (setRow_heap _ _ _ _ _ _ HOL.out) Try.underlying175 rfl HIN.out) rfl ⟨rfl, (by repeat (first | exact Keeps.refl _ _ | assumption | refine Keeps.drew ?_ | refine Keeps.drewN ?_ _ | refine Keeps.alloc ?_ _ | refine Keeps.setRow ?_ (by simp) _ | refine Keeps.setRow ?_ (by simp; omega) _ | refine Keeps.setCell ?_ (by simp) _ | refine Keeps.setCell ?_ (by simp; omega) _))⟩
end Go.Proofs.Ytnhmeckhlajeaaa
