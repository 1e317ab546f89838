/- The walks of connect.Components and connect.Connected. -/
import Derived.Test.YtnhmeckhlajeaaaParts
namespace Go.Proofs.Ytnhmeckhlajeaaa
open Go.RowKit Go.Maps
set_option maxRecDepth 100000
set_option maxHeartbeats 400000

theorem gchk_ends {n : Int} (hn : n ≤ 12) : ∀ (es : List E3) (a b : Int), gchk n a b es = 0 → Ends12 es := by
  intro es
  induction es with
  | nil => intro a b _ x hx; cases hx
  | cons e t ih =>
    intro a b h
    rw [gchk] at h
    split at h
    · rename_i h1
      split at h
      · rename_i h2
        intro x hx
        rcases List.mem_cons.1 hx with rfl | hx
        · omega
        · exact ih _ _ h x hx
      · omega
    · omega
theorem gcheck_ends {n : Int} {es : List E3} (h : gcheckF n es = 0) : Ends12 es ∧ 1 ≤ n ∧ n ≤ 12 := by
  rw [gcheckF] at h
  split at h
  · rename_i h1
    exact ⟨gchk_ends h1.2 es _ _ h, h1⟩
  · omega

/-- Is a right graph connected, as the program finds it? -/
def connF (n : Int) (es : List E3) : Bool := nroots (joinedF es) n.toNat == 1

theorem own_base {w : World} {B B' e size n : Nat} {v : Value} {xs : List Value} (h : w.ownsRow B e size v n xs) (hB : B' ≤ B) : w.ownsRow B' e size v n xs := by
  refine ⟨h.1, ?_⟩
  rcases h.2 with h0 | ⟨g, cap, cur, hv, hb, r⟩
  · exact .inl h0
  · exact .inr ⟨g, cap, cur, hv, Nat.le_trans hB hb, r⟩
theorem Slots.base {w : World} {B B' : Nat} {vals : List Value} {rows : List (List Nat)} (h : Slots w B vals rows) (hB : B' ≤ B) : Slots w B' vals rows :=
  ⟨h.1, fun i v r hv hr => own_base (h.2.1 i v r hv hr) hB, h.2.2⟩

def CompPost (n : Int) (es : List E3) (w : World) (e : Ending) (w' : World) : Prop :=
  ∃ v L vals, e = .returned (.tuple #[v, .int .i64 (gcheckF n es)]) ∧ w'.ownsRow w.heap.size 25 1 v L vals ∧ (gcheckF n es ≠ 0 → L = 0) ∧
    (gcheckF n es = 0 → L = nroots (joinedF es) n.toNat ∧ Slots w' w.heap.size vals (partsF (joinedF es) n.toNat)) ∧ Pure w w'

theorem components_any (A : Option Addr) (es : List E3) (cap : Nat) (n : Int) (w : World) (hd : Edges w A es) (hlen : es.length ≤ 1000000000) :
    Calls Try.prog 146 #[.agg #[.int .i64 n, .slice A es.length cap]] w (CompPost n es w) := by
  by_cases hg : gcheckF n es = 0
  case neg =>
    have hb := neT hg
    have HG := Lib.hid hg
    clear hg
    go_enter Try.func146, Try.ntmps146
    go_wp2_with fail
    refine (gcheck_any A es cap n _ (hd.keep (by repeat (first | exact Keeps.refl _ _ | assumption | refine Keeps.drew ?_ | refine Keeps.drewN ?_ _ | refine Keeps.alloc ?_ _ | refine Keeps.setRow ?_ (by simp) _ | refine Keeps.setRow ?_ (by simp; omega) _ | refine Keeps.setCell ?_ (by simp) _ | refine Keeps.setCell ?_ (by simp; omega) _))) hlen).mono ?_
    rintro e w1 ⟨rfl, hp1⟩
    go_wp2
    go_ret2
    exact ⟨.slice none 0 0, 0, [], rfl, World.ownsRow_nil _ _ _ _, fun _ => rfl, fun h => absurd h HG.out, Pure.after (by repeat (first | exact Keeps.refl _ _ | assumption | refine Keeps.drew ?_ | refine Keeps.drewN ?_ _ | refine Keeps.alloc ?_ _ | refine Keeps.setRow ?_ (by simp) _ | refine Keeps.setRow ?_ (by simp; omega) _ | refine Keeps.setCell ?_ (by simp) _ | refine Keeps.setCell ?_ (by simp; omega) _)) hp1⟩
  have hb := neF hg
  obtain ⟨hE, h1, h2⟩ := gcheck_ends hg
  have HG := Lib.hid hg
  clear hg
  go_enter Try.func146, Try.ntmps146
  go_wp2_with fail
  refine (gcheck_any A es cap n _ (hd.keep (by repeat (first | exact Keeps.refl _ _ | assumption | refine Keeps.drew ?_ | refine Keeps.drewN ?_ _ | refine Keeps.alloc ?_ _ | refine Keeps.setRow ?_ (by simp) _ | refine Keeps.setRow ?_ (by simp; omega) _ | refine Keeps.setCell ?_ (by simp) _ | refine Keeps.setCell ?_ (by simp; omega) _))) hlen).mono ?_
  rintro e w1 ⟨rfl, hp1⟩
  have p1 : Pure w w1 := Pure.after (by repeat (first | exact Keeps.refl _ _ | assumption | refine Keeps.drew ?_ | refine Keeps.drewN ?_ _ | refine Keeps.alloc ?_ _ | refine Keeps.setRow ?_ (by simp) _ | refine Keeps.setRow ?_ (by simp; omega) _ | refine Keeps.setCell ?_ (by simp) _ | refine Keeps.setCell ?_ (by simp; omega) _)) hp1
  have r0 := hp1.row (Row.new w #[.int .i64 n, .slice A es.length cap] 24) id
  have c0 := Row.cell r0 (i := 0) rfl
  have c1 := Row.cell r0 (i := 1) rfl
  have s0 := r0.lt
  go_wp2_with fail
  refine (joined_any A es cap n _ (hd.keep p1) hlen hE).mono ?_
  rintro e w2 ⟨rfl, hp2⟩
  have p2 : Pure w w2 := Pure.after p1 hp2
  have r1 := hp2.row r0 id
  have d0 := Row.cell r1 (i := 0) rfl
  have d1 := Row.cell r1 (i := 1) rfl
  have s1 := r1.lt
  clear c0 c1 s0 r0
  have hF := joinedF_forest es hE
  obtain ⟨a0, a1, a2, a3, a4, a5, a6, a7, a8, a9, a10, a11, hl⟩ := forestV_lit hF.1
  obtain ⟨m, rfl⟩ := Int.eq_ofNat_of_zero_le (show 0 ≤ n by omega)
  have HL := Lib.hid hl
  have hrow : NRow (w2.alloc (.cells (nvals (joinedF es)).toArray 175)) w2.heap.size 175 12 (joinedF es) := by
    have := Row.new w2 (nvals (joinedF es)).toArray 175
    have hsz : (nvals (joinedF es)).toArray.size = 12 := by rw [List.size_toArray, nvals_length, hF.1]
    rw [hsz] at this
    exact this
  rw [hl] at hrow
  unfold forestV
  rw [hl]
  clear hl
  have hF' : Forest [a0, a1, a2, a3, a4, a5, a6, a7, a8, a9, a10, a11] := by rw [← HL.out]; exact hF
  have HF := Lib.hid hF'
  clear hF hF'
  simp only [nvals, List.map] at hrow ⊢
  go_wp2_with fail
  refine (parts_any w2.heap.size _ m _ hrow HF.out (by omega)).mono ?_
  rintro e w3 ⟨v, vals, rfl, ho, hs, hp3⟩
  have p3 : Pure w w3 := Pure.after (Keeps.alloc p2 _) hp3
  have HO := Lib.hid ho
  clear ho
  go_wp2
  go_ret2
  have hle : w.heap.size ≤ (w2.alloc (.cells #[.int .i64 0] 0)).heap.size := by have := p2.size; simp; omega
  simp only [World.size_alloc] at hle
  refine ⟨v, _, vals, ret_eq (by rw [HG.out]; rfl), own_base HO.out (by simpa using hle), fun h => absurd HG.out h, fun _ => ⟨by rw [HL.out]; rfl, ?_⟩, p3⟩
  have := hs.base (B' := w.heap.size) (by simpa using hle)
  rw [HL.out]
  exact this

theorem connected_any (A : Option Addr) (es : List E3) (cap : Nat) (n : Int) (w : World) (hd : Edges w A es) (hlen : es.length ≤ 1000000000) :
    Calls Try.prog 110 #[.agg #[.int .i64 n, .slice A es.length cap]] w fun e w' =>
      e = .returned (.tuple #[.bool (decide (gcheckF n es = 0 ∧ connF n es = true)), .int .i64 (gcheckF n es)]) ∧ Pure w w' := by
  go_enter Try.func110, Try.ntmps110
  go_wp2_with fail
  refine (components_any A es cap n _ (hd.keep (by repeat (first | exact Keeps.refl _ _ | assumption | refine Keeps.drew ?_ | refine Keeps.drewN ?_ _ | refine Keeps.alloc ?_ _ | refine Keeps.setRow ?_ (by simp) _ | refine Keeps.setRow ?_ (by simp; omega) _ | refine Keeps.setCell ?_ (by simp) _ | refine Keeps.setCell ?_ (by simp; omega) _))) hlen).mono ?_
  rintro e w1 ⟨v, L, vals, rfl, ho, h1, h2, hp1⟩
  have p1 : Pure w w1 := Pure.after (by repeat (first | exact Keeps.refl _ _ | assumption | refine Keeps.drew ?_ | refine Keeps.drewN ?_ _ | refine Keeps.alloc ?_ _ | refine Keeps.setRow ?_ (by simp) _ | refine Keeps.setRow ?_ (by simp; omega) _ | refine Keeps.setCell ?_ (by simp) _ | refine Keeps.setCell ?_ (by simp; omega) _)) hp1
  have hL : ((L : Int) == 1) = decide (gcheckF n es = 0 ∧ connF n es = true) := by
    by_cases hg : gcheckF n es = 0
    · obtain ⟨rfl, _⟩ := h2 hg
      simp only [hg, true_and, connF]
      rw [Bool.eq_iff_iff]
      simp
      omega
    · rw [h1 hg]
      simp [hg]
  obtain ⟨A1, c1, rfl⟩ := slot_form ho
  have HL := Lib.hid hL
  clear hL ho h1 h2
  go_wp2
  go_ret2
  refine ⟨?_, p1⟩
  rw [← HL.out]
  rfl
end Go.Proofs.Ytnhmeckhlajeaaa
