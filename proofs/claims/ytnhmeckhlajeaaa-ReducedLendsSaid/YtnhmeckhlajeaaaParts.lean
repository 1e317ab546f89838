/- The walk of the parts of a forest: slices of slices that grow. -/
import Derived.Test.YtnhmeckhlajeaaaConnect
import Derived.Deep.RegionLaw
namespace Go.Proofs.Ytnhmeckhlajeaaa
open Go.RowKit Go.Maps
set_option maxRecDepth 100000
set_option maxHeartbeats 400000

/-- The parts of the vertices below k, in order of their least vertices. -/
def partsF (F : List Nat) : Nat → List (List Nat)
  | 0 => []
  | k + 1 => (if root F k = k then partsF F k ++ [[]] else partsF F k).modify (nroots F (root F k)) (· ++ [k])
theorem partsF_length (F : List Nat) : ∀ k, (partsF F k).length = nroots F k
  | 0 => rfl
  | k + 1 => by
    rw [partsF, List.length_modify, nroots]
    split <;> simp [partsF_length F k]
theorem rows_le (F : List Nat) : ∀ k, ∀ r ∈ partsF F k, r.length ≤ k
  | 0 => by simp [partsF]
  | k + 1 => by
    intro r hr
    rw [partsF] at hr
    obtain ⟨i, hi, rfl⟩ := List.getElem_of_mem hr
    have hb : ∀ r' ∈ (if root F k = k then partsF F k ++ [[]] else partsF F k), r'.length ≤ k := by
      intro r' hr'
      split at hr'
      · rcases List.mem_append.1 hr' with h1 | h1
        · exact rows_le F k r' h1
        · simp at h1; subst h1; simp
      · exact rows_le F k r' hr'
    rw [List.getElem_modify]
    rw [List.length_modify] at hi
    have := hb _ (List.getElem_mem hi)
    split
    · simp; omega
    · omega
theorem nroots_mono (F : List Nat) {a b : Nat} (h : a ≤ b) : nroots F a ≤ nroots F b := by
  induction b with
  | zero => obtain rfl : a = 0 := by omega
            exact Nat.le_refl _
  | succ b ih =>
    rcases Nat.lt_or_ge a (b + 1) with h1 | h1
    · rw [nroots]; have := ih (by omega); omega
    · obtain rfl : a = b + 1 := by omega
      exact Nat.le_refl _
theorem nroots_lt (F : List Nat) {r k : Nat} (h : r < k) (hr : root F r = r) : nroots F r < nroots F k := by
  have := nroots_mono F (show r + 1 ≤ k from h)
  rw [nroots, if_pos hr] at this
  omega
theorem nroots_le (F : List Nat) : ∀ k, nroots F k ≤ k
  | 0 => Nat.le_refl _
  | k + 1 => by rw [nroots]; have := nroots_le F k; split <;> omega

/-- Slices of slices that the call has made: each one owns its row, and no two share a block. -/
def Slots (w : World) (B : Nat) (vals : List Value) (rows : List (List Nat)) : Prop :=
  vals.length = rows.length ∧ (∀ (i : Nat) (v : Value) (r : List Nat), vals[i]? = some v → rows[i]? = some r → w.ownsRow B 3 1 v r.length (nvals r)) ∧
    ∀ (i j : Nat) (v u : Value), i ≠ j → vals[i]? = some v → vals[j]? = some u → v.ownBlock = none ∨ v.ownBlock ≠ u.ownBlock

theorem Slots.nil (w : World) (B : Nat) : Slots w B [] [] := ⟨rfl, by simp, by simp⟩
theorem Slots.kept {w w' : World} {B : Nat} {vals : List Value} {rows : List (List Nat)} {row : Option Nat} (h : Slots w B vals rows) (hg : w.grownBy w' row) (hr : ∀ v ∈ vals, v.ownBlock = none ∨ v.ownBlock ≠ row) : Slots w' B vals rows :=
  ⟨h.1, fun i v r hv hr' => (h.2.1 i v r hv hr').kept hg (hr v (List.mem_of_getElem? hv)), h.2.2⟩
theorem Slots.push {w : World} {B : Nat} {vals : List Value} {rows : List (List Nat)} (h : Slots w B vals rows) : Slots w B (vals ++ [.slice none 0 0]) (rows ++ [[]]) := by
  refine ⟨by simp [h.1], fun i v r hv hr => ?_, fun i j v u hij hv hu => ?_⟩
  · rcases Nat.lt_or_ge i vals.length with hi | hi
    · rw [List.getElem?_append_left hi] at hv
      rw [List.getElem?_append_left (by rw [← h.1]; exact hi)] at hr
      exact h.2.1 i v r hv hr
    · rw [List.getElem?_append_right hi] at hv
      rw [List.getElem?_append_right (by rw [← h.1]; exact hi)] at hr
      have hi0 : i - vals.length = 0 := by
        rcases Nat.eq_zero_or_pos (i - vals.length) with h0 | h0
        · exact h0
        · rw [List.getElem?_eq_none (by simp; omega)] at hv; cases hv
      rw [hi0] at hv
      rw [← h.1, hi0] at hr
      simp at hv hr
      subst hv; subst hr
      exact World.ownsRow_nil _ _ _ _
  · rcases Nat.lt_or_ge i vals.length with hi | hi
    · rcases Nat.lt_or_ge j vals.length with hj | hj
      · rw [List.getElem?_append_left hi] at hv
        rw [List.getElem?_append_left hj] at hu
        exact h.2.2 i j v u hij hv hu
      · rw [List.getElem?_append_right hj] at hu
        cases hvo : v.ownBlock with
        | none => exact .inl rfl
        | some g =>
          refine .inr ?_
          have : u = .slice none 0 0 := by
            have := List.mem_of_getElem? hu
            simpa using this
          subst this
          simp [Value.ownBlock]
    · rw [List.getElem?_append_right hi] at hv
      have : v = .slice none 0 0 := by
        have := List.mem_of_getElem? hv
        simpa using this
      subst this
      exact .inl rfl
/-- One of the slices has grown by a number, into its own block or a new one. -/
theorem Slots.grow {w w' : World} {B : Nat} {vals : List Value} {rows : List (List Nat)} {c : Nat} {v v' : Value} {r : List Nat} {x : Nat} (h : Slots w B vals rows) (hv : vals[c]? = some v) (hr : rows[c]? = some r)
    (hg : w.grownBy w' v.ownBlock) (hown : w'.ownsRow B 3 1 v' (r.length + 1) (nvals r ++ [.int .i64 (Int.ofNat x)])) (hat : v'.ownBlock = v.ownBlock ∨ ∃ g, v'.ownBlock = some g ∧ w.heap.size ≤ g) :
    Slots w' B (vals.set c v') (rows.modify c (· ++ [x])) := by
  have hc : c < vals.length := (List.getElem?_eq_some_iff.1 hv).1
  have hlt : ∀ (i : Nat) (u : Value), vals[i]? = some u → ∀ k, u.ownBlock = some k → k < w.heap.size := fun i u hu k hk => by
    have hi : i < vals.length := (List.getElem?_eq_some_iff.1 hu).1
    have hri : rows[i]? = some (rows[i]'(by rw [← h.1]; exact hi)) := List.getElem?_eq_getElem (by rw [← h.1]; exact hi)
    exact ((h.2.1 i u _ hu hri).lt k hk).2
  refine ⟨by simp [h.1], fun i u r' hu hr' => ?_, fun i j u z hij hu hz => ?_⟩
  · by_cases e : i = c
    · subst e
      rw [List.getElem?_set_self hc] at hu
      rw [List.getElem?_modify, hr] at hr'
      simp at hu hr'
      subst hu; subst hr'
      simpa [nvals] using hown
    · rw [List.getElem?_set_ne (fun e' => e e'.symm)] at hu
      rw [List.getElem?_modify] at hr'
      have e' : ¬ c = i := fun h => e h.symm
      have hr'' : rows[i]? = some r' := by cases hq : rows[i]? <;> simp_all
      exact (h.2.1 i u r' hu hr'').kept hg (h.2.2 i c u v e hu hv)
  · by_cases e : i = c
    · subst e
      rw [List.getElem?_set_self hc] at hu
      rw [List.getElem?_set_ne (fun e' => hij e')] at hz
      simp at hu
      subst hu
      rcases hat with e1 | ⟨g, e1, hgs⟩
      · rw [e1]; exact h.2.2 i j v z hij hv hz
      · refine .inr ?_
        rw [e1]
        intro e2
        have := hlt j z hz g e2.symm
        omega
    · rw [List.getElem?_set_ne (fun e' => e e'.symm)] at hu
      by_cases e3 : j = c
      · subst e3
        rw [List.getElem?_set_self hc] at hz
        simp at hz
        subst hz
        cases huo : u.ownBlock with
        | none => exact .inl rfl
        | some k =>
          refine .inr ?_
          rcases hat with e1 | ⟨g, e1, hgs⟩
          · rw [e1]
            have := h.2.2 i j u v hij hu hv
            rw [huo] at this
            rcases this with h0 | h0
            · cases h0
            · exact h0
          · rw [e1]
            intro e2
            have := hlt i u hu k huo
            cases e2
            omega
      · rw [List.getElem?_set_ne (fun e' => e3 e'.symm)] at hz
        exact h.2.2 i j u z hij hu hz

theorem ints_info : (Try.prog.info? 25).map (fun i => (i.zero, i.size, i.bytes)) = some (some (.slice none 0 0), 1, 24) := by kernel_rfl
theorem zero_int (w : World) : (zeroValue 3).run Try.prog w = .ok (.int .i64 0) w := by kernel_rfl
theorem key_int : Keyed Try.prog 3 := int_keyed Try.underlying3

theorem wf_small {r : Nat} (hr : r < 1000) : (Lit.int .i64 (r : Int)).wf = true := WalkArith.wf_i64 (by omega)

theorem run_lookup_at {H : Type} {w : World} {M n : Nat} {D : DataW H} {r : Nat} {c : Int} (h : w.ownsMap Try.prog 3 (plainElem Try.prog 3) M n D) (hr : r < 1000) (hD : D.atKey (.int .i64 (r : Int)) (.lit (.int .i64 0)) = .lit (.int .i64 c)) :
    (Instr.lookup 188 (.map (some M)) (.int .i64 (r : Int)) false).run Try.prog w = .ok (.int .i64 c) w := by
  obtain ⟨c', h1, h2, _⟩ := h.lookup_int key_int Try.underlying188 Try.underlying3 (zero_int w) (key := .int .i64 (r : Int)) (keyOf_int_mk Try.underlying3 (wf_small hr))
  rw [hD] at h2
  simp at h2
  rw [h1, h2]

theorem slot_form {w : World} {B n : Nat} {v : Value} {xs : List Value} {e : TypeId} (h : w.ownsRow B e 1 v n xs) : ∃ A c, v = .slice A n c := by
  rcases h.2 with ⟨rfl, rfl⟩ | ⟨g, cap, cur, rfl, _⟩
  · exact ⟨_, _, rfl⟩
  · exact ⟨_, _, rfl⟩

theorem own_ne_map {H : Type} {P : Program} {w : World} {B e size n m k : Nat} {v : Value} {xs : List Value} {R : Value → Option (DataW H × List MemPlace)} {D : DataW H} {M : Nat} (h : w.ownsRow B e size v n xs) (hm : w.ownsMap P k R M m D) : v.ownBlock = none ∨ v.ownBlock ≠ some M := by
  obtain ⟨es, clock, hM, _⟩ := hm
  rcases h.2 with ⟨rfl, _⟩ | ⟨g, cap, cur, rfl, _, hg, _⟩
  · exact .inl rfl
  · refine .inr ?_
    simp only [Value.ownBlock]
    intro e'
    cases e'
    rw [hg] at hM
    cases hM
theorem own_ne_map' {H : Type} {P : Program} {w : World} {B e size n m k : Nat} {v : Value} {xs : List Value} {R : Value → Option (DataW H × List MemPlace)} {D : DataW H} {M : Nat} (h : w.ownsRow B e size v n xs) (hm : w.ownsMap P k R M m D) : some M ≠ v.ownBlock := by
  rcases own_ne_map h hm with e | e
  · rw [e]; simp
  · exact fun e' => e e'.symm
theorem undrew {w w' : World} {r : Option Nat} (h : w.drew.grownBy w' r) : w.grownBy w' r := ⟨h.os, h.tape, h.output, h.size, h.block⟩
theorem own_ne_own {w : World} {B B' e e' size size' n n' : Nat} {v v' : Value} {xs xs' : List Value} (he : e ≠ e') (h : w.ownsRow B e size v n xs) (h' : w.ownsRow B' e' size' v' n' xs') : v.ownBlock = none ∨ v.ownBlock ≠ v'.ownBlock := by
  rcases h.2 with ⟨rfl, _⟩ | ⟨g, cap, cur, rfl, _, hg, _⟩
  · exact .inl rfl
  · refine .inr ?_
    rcases h'.2 with ⟨rfl, _⟩ | ⟨g', cap', cur', rfl, _, hg', _⟩
    · simp [Value.ownBlock]
    · simp only [Value.ownBlock]
      intro e''
      simp only [Option.some.injEq] at e''
      subst e''
      rw [hg] at hg'
      simp only [Option.some.injEq, Obj.cells.injEq] at hg'
      exact he hg'.2.1
theorem Slots.row {w : World} {B : Nat} {vals : List Value} {rows : List (List Nat)} (h : Slots w B vals rows) {v : Value} (hv : v ∈ vals) : ∃ n xs, w.ownsRow B 3 1 v n xs := by
  obtain ⟨i, hi, rfl⟩ := List.getElem_of_mem hv
  have hr : rows[i]? = some (rows[i]'(by rw [← h.1]; exact hi)) := List.getElem?_eq_getElem (by rw [← h.1]; exact hi)
  exact ⟨_, _, h.2.1 i _ _ (List.getElem?_eq_getElem hi) hr⟩
theorem row_block {w : World} {B e n c g cap : Nat} {xs : List Value} {u : Value} (h : w.ownsRow B e 1 (.slice (some ⟨g, 0, none⟩) n cap) n xs) (hu : xs[c]? = some u) : w.cell? ⟨g, c, none⟩ = some u ∧ w.frozen? ⟨g, c, none⟩ = false := by
  have h1 := h.cells (g := g) rfl c u hu
  have hadd : (⟨g, 0, none⟩ : Addr).add c = ⟨g, c, none⟩ := by unfold Addr.add; split <;> simp_all
  rw [hadd] at h1
  refine ⟨h1, ?_⟩
  rcases h.2 with ⟨h0, _⟩ | ⟨g', cap', cur, h0, _, hg, _⟩
  · cases h0
  · cases h0
    simp [World.frozen?, hg]

set_option maxHeartbeats 4000000 in
theorem parts_any (g : Nat) (F : List Nat) (n : Nat) (w : World) (hF : NRow w g 175 12 F) (h : Forest F) (hn : n ≤ 12) :
    Calls Try.prog 163 #[.pointer (some ⟨g, 0, none⟩), .int .i64 (n : Int)] w fun e w' => ∃ v vals, e = .returned v ∧ w'.ownsRow w.heap.size 25 1 v (nroots F n) vals ∧ Slots w' w.heap.size vals (partsF F n) ∧ Pure w w' := by
  have HF := Lib.hid h
  clear h
  obtain ⟨i0, hi, hz0, hz1, hz2⟩ := info_parts int_info
  obtain ⟨i1, hi1, hy0, hy1, hy2⟩ := info_parts ints_info
  have hmm := @run_makeMap Try.prog
  go_enter Try.func163, Try.ntmps163
  go_wp2
  have hm0 := World.ownsMap_made (H := Unit) w Try.prog 3 (plainElem Try.prog 3)
  go_loopw [5, 11] (fun out i wr => ∃ (k : Nat) (vals : List Value) (D : DataW Unit), k ≤ n ∧ i = .int .i64 k ∧ wr.ownsRow w.heap.size 25 1 out (nroots F k) vals ∧ Slots wr w.heap.size vals (partsF F k) ∧
      wr.ownsMap Try.prog 3 (plainElem Try.prog 3) w.heap.size k D ∧ Hid (IsMap D ∧ ∀ r, r < k → root F r = r → D.atKey (.int .i64 (r : Int)) (.lit (.int .i64 0)) = .lit (.int .i64 (nroots F r : Int))) ∧ Pure w wr) (fun _ i _ => n - (intOf i).toNat)
  case atStart => exact ⟨0, [], .map [], Nat.zero_le _, rfl, World.ownsRow_nil _ _ _ _, Slots.nil _ _, hm0, ⟨isMap_empty, fun r hr => absurd hr (by omega)⟩, (by repeat (first | exact Keeps.refl _ _ | assumption | refine Keeps.drew ?_ | refine Keeps.drewN ?_ _ | refine Keeps.alloc ?_ _ | refine Keeps.setRow ?_ (by simp) _ | refine Keeps.setRow ?_ (by simp; omega) _ | refine Keeps.setCell ?_ (by simp) _ | refine Keeps.setCell ?_ (by simp; omega) _))⟩
  case round =>
    obtain ⟨k, vals, D, hk, rfl, hown, hsl, hmap, HD, hp⟩ := hrel
    clear hm0
    have hFr : NRow wr g 175 12 F := hp.row hF id
    obtain ⟨A, cp, rfl⟩ := slot_form hown
    by_cases hlt : k < n
    · have hrl := root_le HF.out k (by omega)
      have hnk := nroots_le F k
      have hMw : w.heap.size < wr.heap.size := hmap.lt
      by_cases hr : root F k = k
      case' pos =>
        have hb : ((root F k : Int) == (k : Int)) = true := by simp [hr]
        have HR := Lib.hid hr
        go_wp2_with fail
        refine (root_any g F k _ hFr HF.out (by omega)).mono ?_
        rintro e w' ⟨rfl, rfl⟩
        rw [hr] at hb ⊢
        clear hr
        go_wp2_with (first
          | (refine wpList_mapUpdate_own _ rfl _ _ _ 188 rfl 3 3 key_int Try.underlying188 _ w.heap.size k D rfl hmap (by unfold maxLen; omega) _ _ _ rfl rfl (keyOf_int_mk Try.underlying3 (wf_small (by omega))) (.lit (.int .i64 (nroots F k : Int))) [] (plainElem_int Try.underlying3 (wf_small (by omega))) ?_; intro w1 hmap1 hgrow1; have hown1 := hown.kept hgrow1 (own_ne_map hown hmap); have hsl1 := hsl.kept hgrow1 (fun v hv => by obtain ⟨_, _, hq⟩ := hsl.row hv; exact own_ne_map hq hmap); have hsz1 := hgrow1.size)
          | (at_builtin; refine wpList_append_own _ rfl _ _ 161 rfl w.heap.size 25 i1 (.slice none 0 0) 1 24 Try.underlying161 hi1 hy0 hy1 hy2 rfl (by decide) _ _ _ rfl (hown1.alloc _) ⟨w1.heap.size, 0, none⟩ 1 1 [.slice none 0 0] rfl rfl (cell_one_new _ _ _) (by simp [Value.oneCell']) (by unfold maxLen; omega) (by omega) (by have := hp.size; simp; omega) ?_; intro v2 wA hown2 hgrow2 _))
        obtain ⟨G, capA, rfl, hG1, hG2⟩ := hown2.form (by omega)
        have hS := ((hsl1.kept (World.grownBy_alloc w1 _ none) (fun v _ => by cases v.ownBlock <;> simp)).kept hgrow2 (fun v hv => by obtain ⟨_, _, hq⟩ := hsl1.row hv; exact own_ne_own (by decide) hq hown1)).push
        have hM := (hmap1.alloc (.cells #[.slice none 0 0] 25)).kept hgrow2 (own_ne_map' hown1 hmap1)
        have hP : Pure w wA := by
          refine Keeps.grown (Keeps.alloc (Keeps.grown hp hgrow1 (fun j e hj => by cases e; omega)) _) hgrow2 (fun j e hj => ?_)
          have := (hown1.lt j e).1
          omega
        have hlen : vals.length = nroots F k := by have := hown.1; omega
        have hO := hown2
        obtain ⟨vi, hvi⟩ : ∃ vi : Value, vi = .slice none 0 0 := ⟨_, rfl⟩
        obtain ⟨rr, hrr⟩ : ∃ rr : List Nat, rr = [] := ⟨_, rfl⟩
        have HX : Hid ((partsF F k ++ [[]])[nroots F k]? = some rr ∧ (partsF F (k + 1) = (partsF F k ++ [[]]).modify (nroots F k) (· ++ [k]) ∧ nroots F (k + 1) = nroots F k + 1) ∧ (IsMap (D.put (.int .i64 (k : Int)) (.lit (.int .i64 (nroots F k : Int)))) ∧ ∀ r, r < k + 1 → root F r = r → (D.put (.int .i64 (k : Int)) (.lit (.int .i64 (nroots F k : Int)))).atKey (.int .i64 (r : Int)) (.lit (.int .i64 0)) = .lit (.int .i64 (nroots F r : Int))) ∧ (D.put (.int .i64 (k : Int)) (.lit (.int .i64 (nroots F k : Int)))).atKey (.int .i64 (k : Int)) (.lit (.int .i64 0)) = .lit (.int .i64 (nroots F k : Int)) ∧ (vals ++ [.slice none 0 0])[nroots F k]? = some vi ∧ nroots F k < nroots F k + 1) := by
          rw [hvi, hrr]
          have hk1 : WideAt.IsKeyLit (.int .i64 (k : Int)) := trivial
          refine ⟨?_, ⟨?_, ?_⟩, ⟨HD.out.1.put _ _, ?_⟩, ?_, ?_, by omega⟩
          · rw [List.getElem?_append_right (by rw [partsF_length]; exact Nat.le_refl _), partsF_length]; simp
          · rw [partsF, HR.out, if_pos rfl]
          · rw [nroots, if_pos HR.out]
          · intro q hq hqr
            by_cases e : q = k
            · subst e; exact atKey_put_same HD.out.1 hk1 _ _
            · rw [atKey_put_other (by simp; omega)]
              exact HD.out.2 q (by omega) hqr
          · exact atKey_put_same HD.out.1 hk1 _ _
          · rw [List.getElem?_append_right (by omega), hlen]; simp

        clear hgrow2 hmap1 hgrow1 hown1 hsl1 hsz1 hown hsl hmap HD hlen hown2 HR
        generalize hvv : vals ++ [(.slice none 0 0 : Value)] = vA at *
        clear hvv
        generalize hrw : partsF F k ++ [[]] = rowsA at *
        clear hrw
        have hform : ∃ Ai ci, vi = .slice Ai rr.length ci := ⟨none, 0, by rw [hvi, hrr]; rfl⟩
        have hvo' : wA.ownsRow w.heap.size 3 1 vi rr.length (nvals rr) := by rw [hvi, hrr]; exact World.ownsRow_nil _ _ _ _
        have hrl12 : rr.length ≤ 1000 := by rw [hrr]; simp
        clear hvi hrr
        generalize hL : nroots F k + 1 = L at *
        clear hL
        generalize hcc : nroots F k = c at *
        clear hcc
        generalize hDD : D.put (.int .i64 (k : Int)) (.lit (.int .i64 (c : Int))) = DA at *
        clear hDD
        obtain ⟨Ai, ci, rfl⟩ := hform
        have hcL : c < L := HX.out.2.2.2.2.2
        have hc0 : (0 : Int) ≤ (c : Int) := by omega
        have hc1 : (c : Int) < (L : Int) := by omega
        have hcv := HX.out.2.2.2.2.1
        obtain ⟨hq1, hq2⟩ := row_block hO hcv
        have hr12 : k < 1000 := by omega
        have hLk := run_lookup_at hM hr12 HX.out.2.2.2.1
        have hlk1 := run_lookup_at (World.ownsMap.drew hM) hr12 HX.out.2.2.2.1
        have hlk2 := run_lookup_at (World.ownsMap.drew (hM.alloc (.cells #[.int .i64 (k : Int)] 3))) hr12 HX.out.2.2.2.1
        have hGn := own_ne_own (by decide) hO hvo'
        have hMG := own_ne_map' hvo' hM
        have hGw : G < wA.heap.size := (hO.lt G rfl).2
        have HO := Lib.hid hO
        have HS := Lib.hid hS
        have HM := Lib.hid hM
        have HV := Lib.hid hvo'
        have HMG := Lib.hid hMG
        have HGn : Hid (some G ≠ (Value.slice Ai rr.length ci).ownBlock) := by
          rcases hGn with e | e
          · simp [Value.ownBlock] at e
          · exact e
        clear hO hS hM hvo' hMG hGn hcv hLk
        go_region_law ((refine step_append_lies _ (by rfl) _ _ _ (by rfl) w.heap.size 3 i0 _ 1 8 Try.underlying25 hi hz0 hz1 hz2 rfl (by omega) (.slice Ai rr.length ci) rr.length (nvals rr) (by rfl) ((HV.out.alloc _).drew) ⟨wA.heap.size, 0, none⟩ 1 1 [.int .i64 (k : Int)] (by rfl) (by rfl) (World.news_of_block (cs := #[.int .i64 (k : Int)]) (t := 3) (fr := (0, 0)) (heap_alloc_new wA _)) (by simp [Value.oneCell']) (by omega) (by unfold maxLen; omega) (by omega) (by simp; omega) (wA.heap.size + 1) (by simp) ?_; intro gg cap w3 hown3 hgrow hat hlt3; have hbG := hgrow.block G (by simp; omega) HGn.out; have hbG' := hbG.trans (Below.heap_alloc wA _ G hGw); have hq3 := (World.cell?_of_block (w := wA) (a := ⟨G, c, none⟩) hbG').trans hq1; have hq4 := (World.frozen?_of_block (w := wA) (a := ⟨G, c, none⟩) hbG').trans hq2; have hM3 := (World.ownsMap.drew (HM.out.alloc (.cells #[.int .i64 (k : Int)] 3))).kept hgrow HMG.out; have hlk3 := run_lookup_at hM3 hr12 HX.out.2.2.2.1; have HM3 := Lib.hid hM3; have HG3 := Lib.hid hgrow; have HO3 := Lib.hid hown3; have HA3 := Lib.hid hat; clear hbG hbG' hM3 hgrow hown3 hat))
        all_goals (
          have o3 := (HO.out.alloc (.cells #[.int .i64 (k : Int)] 3)).kept (w' := w3) (undrew HG3.out) (.inr (by simpa [Value.ownBlock] using HGn.out))
          have o4 := o3.stored c (.slice (some ⟨gg, 0, none⟩) (rr.length + 1) cap)
          have s3 := Slots.grow (v' := .slice (some ⟨gg, 0, none⟩) (rr.length + 1) cap) (x := k) (HS.out.kept (World.grownBy_alloc wA (.cells #[.int .i64 (k : Int)] 3) none) (fun v _ => by cases v.ownBlock <;> simp)) HX.out.2.2.2.2.1 HX.out.1 (undrew HG3.out) HO3.out (by
            rcases HA3.out with e | e
            · exact .inl e.symm
            · exact .inr ⟨gg, rfl, by rw [e]; simp⟩)
          have s4 := s3.kept o4.2 (fun v hv => by obtain ⟨_, _, hq⟩ := s3.row hv; exact own_ne_own (by decide) hq o3)
          have m4 := HM3.out.kept o4.2 (own_ne_map' o3 HM3.out)
          have p4 : Pure w (w3.setCell ⟨G, c, none⟩ (.slice (some ⟨gg, 0, none⟩) (rr.length + 1) cap)) := by
            refine Keeps.setCell (Keeps.grown (Keeps.drew (Keeps.alloc hP _)) HG3.out (fun j e hj => ?_)) (by simp; omega) _
            have := (HV.out.lt j e).1
            omega
          have HO4 := Lib.hid o4.1
          have HS4 := Lib.hid s4
          have HM4 := Lib.hid m4
          have HP4 := Lib.hid p4
          clear o3 o4 s3 s4 m4 p4 hq1 hq2 hq3 hq4 hlk1 hlk2 hlk3
          go_wp2
          go_roundw
          case rel => exact ⟨k + 1, vA.set c (.slice (some ⟨gg, 0, none⟩) (rr.length + 1) cap), DA, by omega, by go_num, by rw [HX.out.2.1.2]; exact HO4.out, by rw [HX.out.2.1.1]; exact HS4.out, HM4.out, HX.out.2.2.1, HP4.out⟩
          case measure => simp [intOf]; omega)
      case' neg =>
        have hb : ((root F k : Int) == (k : Int)) = false := by simp; omega
        have hrk : root F k < k := by omega
        have HR := Lib.hid hr
        clear hr
        have hcl : nroots F (root F k) < nroots F k := nroots_lt F hrk (root_root HF.out (by omega))
        obtain ⟨G, capA, e0, hG1, hG2⟩ := hown.form (by omega)
        cases e0
        have hlen : vals.length = nroots F k := by have := hown.1; omega
        have hv0 : vals[nroots F (root F k)]? = some (vals[nroots F (root F k)]'(by omega)) := List.getElem?_eq_getElem _
        have hr0 : (partsF F k)[nroots F (root F k)]? = some ((partsF F k)[nroots F (root F k)]'(by rw [partsF_length]; omega)) := List.getElem?_eq_getElem _
        obtain ⟨vi, hvi⟩ : ∃ vi : Value, vi = vals[nroots F (root F k)]'(by omega) := ⟨_, rfl⟩
        obtain ⟨rr, hrr⟩ : ∃ rr : List Nat, rr = (partsF F k)[nroots F (root F k)]'(by rw [partsF_length]; omega) := ⟨_, rfl⟩
        rw [← hvi] at hv0
        rw [← hrr] at hr0
        have hrl12 : rr.length ≤ 1000 := by
          have := rows_le F k rr (by rw [hrr]; exact List.getElem_mem _)
          omega
        clear hvi hrr
        go_wp2_with fail
        refine (root_any g F k _ hFr HF.out (by omega)).mono ?_
        rintro e w' ⟨rfl, rfl⟩
        go_wp2
        obtain ⟨wA, hwA⟩ : ∃ wA : World, wA = wr := ⟨_, rfl⟩
        rw [← hwA] at hown hsl hmap hp hG2 ⊢
        clear hwA
        have hO := hown
        have hS := hsl
        have hM := hmap.mono (Nat.le_succ k)
        have hP := hp
        have hvo' := hsl.2.1 _ _ _ hv0 hr0
        have hform : ∃ Ai ci, vi = .slice Ai rr.length ci := slot_form hvo'
        have HX : Hid ((partsF F k)[nroots F (root F k)]? = some rr ∧ (partsF F (k + 1) = (partsF F k).modify (nroots F (root F k)) (· ++ [k]) ∧ nroots F (k + 1) = nroots F k) ∧ (IsMap D ∧ ∀ r, r < k + 1 → root F r = r → D.atKey (.int .i64 (r : Int)) (.lit (.int .i64 0)) = .lit (.int .i64 (nroots F r : Int))) ∧ D.atKey (.int .i64 (root F k : Int)) (.lit (.int .i64 0)) = .lit (.int .i64 (nroots F (root F k) : Int)) ∧ vals[nroots F (root F k)]? = some vi ∧ nroots F (root F k) < nroots F k) := by
          refine ⟨hr0, ⟨?_, ?_⟩, ⟨HD.out.1, ?_⟩, ?_, hv0, hcl⟩
          · rw [partsF, if_neg HR.out]
          · rw [nroots, if_neg HR.out, Nat.add_zero]
          · intro q hq hqr
            by_cases e : q = k
            · subst e; exact absurd hqr HR.out
            · exact HD.out.2 q (by omega) hqr
          · exact HD.out.2 _ hrk (root_root HF.out (by omega))
        clear hown hsl hmap HD hlen HR hv0 hr0 hcl
        generalize hL : nroots F k = L at *
        clear hL
        generalize hcc : nroots F (root F k) = c at *
        clear hcc
        generalize hrw : partsF F k = rowsA at *
        clear hrw
        generalize hq : root F k = r at *
        clear hq
        obtain ⟨Ai, ci, rfl⟩ := hform
        have hcL : c < L := HX.out.2.2.2.2.2
        have hc0 : (0 : Int) ≤ (c : Int) := by omega
        have hc1 : (c : Int) < (L : Int) := by omega
        have hcv := HX.out.2.2.2.2.1
        obtain ⟨hq1, hq2⟩ := row_block hO hcv
        have hr12 : r < 1000 := by omega
        have hLk := run_lookup_at hM hr12 HX.out.2.2.2.1
        have hlk1 := run_lookup_at (World.ownsMap.drew hM) hr12 HX.out.2.2.2.1
        have hlk2 := run_lookup_at (World.ownsMap.drew (hM.alloc (.cells #[.int .i64 (k : Int)] 3))) hr12 HX.out.2.2.2.1
        have hGn := own_ne_own (by decide) hO hvo'
        have hMG := own_ne_map' hvo' hM
        have hGw : G < wA.heap.size := (hO.lt G rfl).2
        have HO := Lib.hid hO
        have HS := Lib.hid hS
        have HM := Lib.hid hM
        have HV := Lib.hid hvo'
        have HMG := Lib.hid hMG
        have HGn : Hid (some G ≠ (Value.slice Ai rr.length ci).ownBlock) := by
          rcases hGn with e | e
          · simp [Value.ownBlock] at e
          · exact e
        clear hO hS hM hvo' hMG hGn hcv hLk
        go_region_law ((refine step_append_lies _ (by rfl) _ _ _ (by rfl) w.heap.size 3 i0 _ 1 8 Try.underlying25 hi hz0 hz1 hz2 rfl (by omega) (.slice Ai rr.length ci) rr.length (nvals rr) (by rfl) ((HV.out.alloc _).drew) ⟨wA.heap.size, 0, none⟩ 1 1 [.int .i64 (k : Int)] (by rfl) (by rfl) (World.news_of_block (cs := #[.int .i64 (k : Int)]) (t := 3) (fr := (0, 0)) (heap_alloc_new wA _)) (by simp [Value.oneCell']) (by omega) (by unfold maxLen; omega) (by omega) (by simp; omega) (wA.heap.size + 1) (by simp) ?_; intro gg cap w3 hown3 hgrow hat hlt3; have hbG := hgrow.block G (by simp; omega) HGn.out; have hbG' := hbG.trans (Below.heap_alloc wA _ G hGw); have hq3 := (World.cell?_of_block (w := wA) (a := ⟨G, c, none⟩) hbG').trans hq1; have hq4 := (World.frozen?_of_block (w := wA) (a := ⟨G, c, none⟩) hbG').trans hq2; have hM3 := (World.ownsMap.drew (HM.out.alloc (.cells #[.int .i64 (k : Int)] 3))).kept hgrow HMG.out; have hlk3 := run_lookup_at hM3 hr12 HX.out.2.2.2.1; have HM3 := Lib.hid hM3; have HG3 := Lib.hid hgrow; have HO3 := Lib.hid hown3; have HA3 := Lib.hid hat; clear hbG hbG' hM3 hgrow hown3 hat))
        all_goals (
          have o3 := (HO.out.alloc (.cells #[.int .i64 (k : Int)] 3)).kept (w' := w3) (undrew HG3.out) (.inr (by simpa [Value.ownBlock] using HGn.out))
          have o4 := o3.stored c (.slice (some ⟨gg, 0, none⟩) (rr.length + 1) cap)
          have s3 := Slots.grow (v' := .slice (some ⟨gg, 0, none⟩) (rr.length + 1) cap) (x := k) (HS.out.kept (World.grownBy_alloc wA (.cells #[.int .i64 (k : Int)] 3) none) (fun v _ => by cases v.ownBlock <;> simp)) HX.out.2.2.2.2.1 HX.out.1 (undrew HG3.out) HO3.out (by
            rcases HA3.out with e | e
            · exact .inl e.symm
            · exact .inr ⟨gg, rfl, by rw [e]; simp⟩)
          have s4 := s3.kept o4.2 (fun v hv => by obtain ⟨_, _, hq⟩ := s3.row hv; exact own_ne_own (by decide) hq o3)
          have m4 := HM3.out.kept o4.2 (own_ne_map' o3 HM3.out)
          have p4 : Pure w (w3.setCell ⟨G, c, none⟩ (.slice (some ⟨gg, 0, none⟩) (rr.length + 1) cap)) := by
            refine Keeps.setCell (Keeps.grown (Keeps.drew (Keeps.alloc hP _)) HG3.out (fun j e hj => ?_)) (by simp; omega) _
            have := (HV.out.lt j e).1
            omega
          have HO4 := Lib.hid o4.1
          have HS4 := Lib.hid s4
          have HM4 := Lib.hid m4
          have HP4 := Lib.hid p4
          clear o3 o4 s3 s4 m4 p4 hq1 hq2 hq3 hq4 hlk1 hlk2 hlk3
          go_wp2
          go_roundw
          case rel => exact ⟨k + 1, vals.set c (.slice (some ⟨gg, 0, none⟩) (rr.length + 1) cap), D, by omega, by go_num, by rw [HX.out.2.1.2]; exact HO4.out, by rw [HX.out.2.1.1]; exact HS4.out, HM4.out, HX.out.2.2.1, HP4.out⟩
          case measure => simp [intOf]; omega)
    · go_wp2
      go_ret
      obtain rfl : k = n := by omega
      exact ⟨_, vals, rfl, hown, hsl, hp⟩
end Go.Proofs.Ytnhmeckhlajeaaa
