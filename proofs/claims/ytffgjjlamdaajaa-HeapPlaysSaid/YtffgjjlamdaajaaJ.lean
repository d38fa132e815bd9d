/- The reference's order on keys: what each function returns. -/
import Derived.Test.YtffgjjlamdaajaaI
namespace Go.Proofs.Ytffgjjlamdaajaa
open Go.RowKit

theorem results_c {fn : Func} {p : Tmp} {ty : TypeId} (h : fn.results = #[.cell p ty]) (tmps : Array Value) (P : Program) (w : World) :
    (results fn tmps).run P w = ((asAddr (tmps.getD p undef)).run P w).andThen fun a w₁ => (loadVar ty a).run P w₁ := by
  simp only [results, h]
  simp [Sem.run_bind, Result.andThen]

set_option maxHeartbeats 1000000 in
theorem plain_any (k : Ky) (w : World) : Calls Try.prog 11 #[kyV k] w fun e w' => e = .returned (kyV k) ∧ Below w.heap.size w w' := by
  obtain ⟨k1, k2, k3, k4⟩ := k
  go_enter Try.func11, Try.ntmps11
  go_wp2_with fail
  refine bodyPost_ret (by rw [results_c rfl]; go_simp; first | rfl | (go_simp; rfl)) rfl ?_
  exact ⟨rfl, by go_grown⟩

theorem ltK_true {a b : Ky} (h : ltP a b) : ltK a b = true := (ltK_iff a b).2 h
theorem ltK_false {a b : Ky} (h : ¬ ltP a b) : ltK a b = false := by
  cases e : ltK a b
  · rfl
  · exact absurd ((ltK_iff a b).1 e) h

set_option maxHeartbeats 2000000 in
theorem refLess_any (a b : Ky) (w : World) : Calls Try.prog 10 #[kyV a, kyV b] w fun e w' => e = .returned (.bool (ltK a b)) ∧ Below w.heap.size w w' := by
  obtain ⟨a1, a2, a3, a4⟩ := a
  obtain ⟨b1, b2, b3, b4⟩ := b
  by_cases h1 : a1 < b1
  · have HL := Lib.hid (show ltK (a1, a2, a3, a4) (b1, b2, b3, b4) = true from ltK_true (by simp only [ltP]; omega))
    go_enter Try.func10, Try.ntmps10
    go_wp2_with fail
    go_ret
    exact ⟨by rw [HL.out]; rfl, by go_grown⟩
  · by_cases e1 : a1 = b1
    · subst e1
      by_cases h2 : a2 < b2
      · have HL := Lib.hid (show ltK (a1, a2, a3, a4) (a1, b2, b3, b4) = true from ltK_true (.inr ⟨rfl, .inl h2⟩))
        go_enter Try.func10, Try.ntmps10
        go_wp2_with fail
        go_ret
        exact ⟨by rw [HL.out]; rfl, by go_grown⟩
      · by_cases e2 : a2 = b2
        · subst e2
          by_cases h3 : a3 < b3
          · have HL := Lib.hid (show ltK (a1, a2, a3, a4) (a1, a2, b3, b4) = true from ltK_true (.inr ⟨rfl, .inr ⟨rfl, .inl h3⟩⟩))
            go_enter Try.func10, Try.ntmps10
            go_wp2_with fail
            go_ret
            exact ⟨by rw [HL.out]; rfl, by go_grown⟩
          · by_cases e3 : a3 = b3
            · subst e3
              have HL := Lib.hid (show ltK (a1, a2, a3, a4) (a1, a2, a3, b4) = decide (a4 < b4) from by unfold ltK; simp)
              go_enter Try.func10, Try.ntmps10
              go_wp2_with fail
              go_ret
              exact ⟨by rw [HL.out]; rfl, by go_grown⟩
            · have HL := Lib.hid (show ltK (a1, a2, a3, a4) (a1, a2, b3, b4) = false from ltK_false (by simp only [ltP]; omega))
              have q3 : (a3 == b3) = false := by simpa using e3
              go_enter Try.func10, Try.ntmps10
              go_wp2_with fail
              go_ret
              exact ⟨by rw [HL.out]; rfl, by go_grown⟩
        · have HL := Lib.hid (show ltK (a1, a2, a3, a4) (a1, b2, b3, b4) = false from ltK_false (by simp only [ltP]; omega))
          have q2 : (a2 == b2) = false := by simpa using e2
          go_enter Try.func10, Try.ntmps10
          go_wp2_with fail
          go_ret
          exact ⟨by rw [HL.out]; rfl, by go_grown⟩
    · have HL := Lib.hid (show ltK (a1, a2, a3, a4) (b1, b2, b3, b4) = false from ltK_false (by simp only [ltP]; omega))
      have q1 : (a1 == b1) = false := by simpa using e1
      go_enter Try.func10, Try.ntmps10
      go_wp2_with fail
      go_ret
      exact ⟨by rw [HL.out]; rfl, by go_grown⟩

/-- The cells of a key in a block. -/
structure Cell4 (w : World) (b : Nat) (k : Ky) : Prop where
  c0 : w.cell? ⟨b, 0, none⟩ = some (.int .u64 k.1)
  c1 : w.cell? ⟨b, 1, none⟩ = some (.int .u64 k.2.1)
  c2 : w.cell? ⟨b, 2, none⟩ = some (.int .i64 k.2.2.1)
  c3 : w.cell? ⟨b, 3, none⟩ = some (.int .i64 k.2.2.2)
theorem Blk.cell4 {w : World} {b : Nat} {t : TypeId} {k : Ky} (h : Blk w b t #[.int .u64 k.1, .int .u64 k.2.1, .int .i64 k.2.2.1, .int .i64 k.2.2.2]) : Cell4 w b k := ⟨h.cell 0, h.cell 1, h.cell 2, h.cell 3⟩

end Go.Proofs.Ytffgjjlamdaajaa
