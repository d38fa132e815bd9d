/- Getting from a cache of other keys: what it returns, and what the cache holds then. -/
import Derived.Test.YtoecclpfgdfpoaaKC
namespace Go.Proofs.Ytoecclpfgdfpoaa.K
open Go.RowKit

/-- What Get leaves. -/
def GetPost (p : Nat) (s : Value) (room : Int) (l : List Th) (k : Int) (w : World) (e : Ending) (w' : World) : Prop :=
  e = .returned (.tuple #[tw (if has l k then val l k else 0), .bool (has l k)]) ∧ Cch w' p s room (getL l k) ∧ Kept (O p s) w w'

set_option maxHeartbeats 1000000 in
theorem get_yes (p : Nat) (s : Value) (room : Int) (l : List Th) (k : Int) (w : World) (h : Cch w p s room l) (hl : l.length ≤ 1000000) (hk : has l k = true) :
    Calls Try.prog 13 #[.pointer (some ⟨p, 0, none⟩), nm k] w (GetPost p s room l k w) := by
  obtain ⟨h1, h2, h3, h4, _⟩ := pos_spec hk
  obtain ⟨g, cap, rfl, hg⟩ := of_pos h.own (by omega)
  have HC := Lib.hid (fun W hW => find_some p _ room l k (pos l k) W (h.fresh hW) hl h1 h2 h4)
  have HH := Lib.hid h
  have q0 := h.blk.cell 1
  obtain ⟨q2, q2s, q1, q3⟩ := own_cells h.own h1
  rw [h3] at q1 q3
  rw [h2] at q2
  have hp := h.blk.lt
  have i0 : (0 : Int) ≤ (pos l k : Int) := by omega
  have i1 : (pos l k : Int) < (l.length : Int) := by omega
  have HL := Lib.hid (lifted_get hk)
  have HK := Lib.hid hk
  simp at q0
  generalize pos l k = r at *
  generalize hv : val l k = v at *
  have HV := Lib.hid hv
  clear h h2 h3 h4 hk hv
  go_enter Try.func13, Try.ntmps13
  go_wp2_with fail
  refine (HC.out _ (by go_grown)).mono ?_
  rintro e w1 ⟨rfl, hb0⟩
  have hb : Below w.heap.size w w1 := bl (by go_grown) hb0
  have KB := Lib.hid (ret_blk hb0)
  have hs := hb0.size
  simp at hs
  clear hb0
  have q0' := (hb.cell (p := ⟨p, 1, none⟩) hp).trans q0
  have q2' := (hb.cell (p := ⟨g, r * 4, none⟩) hg).trans q2
  have q2s' := (hb.cell (p := ⟨g, r * 4 + 1, none⟩) hg).trans q2s
  have q1' := (hb.cell (p := ⟨g, r * 4 + 2, none⟩) hg).trans q1
  have q3' := (hb.cell (p := ⟨g, r * 4 + 3, none⟩) hg).trans q3
  have HB := Lib.hid hb
  have H1 := Lib.hid (HH.out.fresh hb)
  clear hb
  go_wp2_with fail
  refine (lift_any p (.slice (some ⟨g, 0, none⟩) l.length cap) room l r (k, v) _ (by exact H1.out.fresh ((Below.refl _ _).alloc (Nat.le_refl _) _)) hl h1).mono ?_
  rintro e w2 ⟨rfl, hc, hk2⟩
  have q4 : w2.cell? ⟨w1.heap.size, 2, none⟩ = some (.int .i64 v) := (hk2.cell (by simp) (by simp [Value.ownBlock]; omega)).trans (by simp)
  have q5 : w2.cell? ⟨w1.heap.size, 3, none⟩ = some (.int .i64 v) := (hk2.cell (by simp) (by simp [Value.ownBlock]; omega)).trans (by simp)
  have kb := hk2.blk (KB.out.alloc _) (by simp [Value.ownBlock]; omega)
  have c0 := kb.cell 0
  have c1 := kb.cell 1
  have f0 := kb.frozen 0
  have f1 := kb.frozen 1
  simp at c0 c1
  have HC2 := Lib.hid hc
  have HK2 := Lib.hid hk2
  clear hc hk2 kb
  go_wp2_with fail
  refine bodyPost_ret (by rw [results_cell_tmp rfl]; go_simp; first | rfl | (go_simp; rfl)) rfl ?_
  have hfar : ∀ b, O p (.slice (some ⟨g, 0, none⟩) l.length cap) b → ¬ b = w.heap.size + 1 := fun b hb => by have := HH.out.lt hb; omega
  refine ⟨by rw [HK.out, HV.out]; rfl, ?_, ?_⟩
  · rw [← HL.out]
    exact HC2.out.kept (S := fun b => b = w.heap.size + 1) (((Kept.refl (fun b => b = w.heap.size + 1) w2).setCell (p := ⟨w.heap.size + 1, 0, none⟩) (.inl rfl) _).setCell (p := ⟨w.heap.size + 1, 1, none⟩) (.inl rfl) _) hfar
  · exact ((((Kept.of_fresh HB.out (O p _)).alloc _).trans HK2.out (fun b hb => .inl (.inr hb))).setCell (p := ⟨w.heap.size + 1, 0, none⟩) (.inr (by simp)) _).setCell (p := ⟨w.heap.size + 1, 1, none⟩) (.inr (by simp)) _

set_option maxHeartbeats 1000000 in
theorem get_no (p : Nat) (s : Value) (room : Int) (l : List Th) (k : Int) (w : World) (h : Cch w p s room l) (hl : l.length ≤ 1000000) (hk : has l k = false) :
    Calls Try.prog 13 #[.pointer (some ⟨p, 0, none⟩), nm k] w (GetPost p s room l k w) := by
  have HC := Lib.hid (fun W hW => find_none p _ room l k W (h.fresh hW) hl (not_has hk))
  have HH := Lib.hid h
  have HK := Lib.hid hk
  clear h hk
  go_enter Try.func13, Try.ntmps13
  go_wp2_with fail
  refine (HC.out _ (by go_grown)).mono ?_
  rintro e w1 ⟨rfl, hb0⟩
  have hb : Below w.heap.size w w1 := bl (by go_grown) hb0
  have kb := ret_blk hb0
  have c0 := kb.cell 0
  have c1 := kb.cell 1
  have f0 := kb.frozen 0
  have f1 := kb.frozen 1
  have hs := hb0.size
  simp at c0 c1 hs
  have hne : ¬ w.heap.size + 1 = w1.heap.size := by omega
  have hlt1 : w.heap.size + 1 < w1.heap.size := by omega
  clear hb0 kb
  go_wp2_with fail
  refine bodyPost_ret (by rw [results_cell_tmp rfl]; go_simp; first | rfl | (go_simp; rfl)) rfl ?_
  have HB := Lib.hid (Kept.of_fresh hb (O p s))
  refine ⟨by rw [HK.out]; rfl, ?_, Kept.of_fresh (by go_grown) _⟩
  unfold getL
  rw [HK.out, if_neg (by simp)]
  exact HH.out.fresh (by go_grown)

theorem get_any (p : Nat) (s : Value) (room : Int) (l : List Th) (k : Int) (w : World) (h : Cch w p s room l) (hl : l.length ≤ 1000000) :
    Calls Try.prog 13 #[.pointer (some ⟨p, 0, none⟩), nm k] w (GetPost p s room l k w) := by
  cases hk : has l k
  · exact get_no p s room l k w h hl hk
  · exact get_yes p s room l k w h hl hk
end Go.Proofs.Ytoecclpfgdfpoaa.K
