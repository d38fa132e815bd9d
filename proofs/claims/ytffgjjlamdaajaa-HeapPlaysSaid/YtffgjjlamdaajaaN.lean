/- A clone goes its own way: the law on acts returns true. -/
import Derived.Test.YtffgjjlamdaajaaL
namespace Go.Proofs.Ytffgjjlamdaajaa
open Go.RowKit

/-- What some acts leave. -/
def doN (l : List Ac) (n : Nat) : List Th := (l.take n).foldl doS []
theorem doN_zero (l : List Ac) : doN l 0 = [] := rfl
theorem doN_succ (l : List Ac) {n : Nat} (h : n < l.length) : doN l (n + 1) = doS (doN l n) (l.getD n ac0) := by
  have e : l.take (n + 1) = l.take n ++ [l[n]] := by simp
  unfold doN
  rw [e, List.foldl_append, List.getD_eq_getElem?_getD, List.getElem?_eq_getElem h]
  rfl

theorem popV_drop {S : List Th} {k : Nat} (h : k < S.length) : popV (S.drop k) = .tuple #[.int .i64 (g S k).1, kyV (g S k).2, .bool true] := by
  rw [List.drop_eq_getElem_cons h]
  simp [popV, g, h]
theorem tail_drop (S : List Th) (k : Nat) : (S.drop k).tail = S.drop (k + 1) := by simp [List.tail_drop]

theorem pop_nil' (w : World) : Calls Try.prog 18 #[.pointer none] w fun e w' => e = .returned (.tuple #[.int .i64 0, .agg #[.int .u64 0, .int .u64 0, .int .i64 0, .int .i64 0], .bool false]) ∧ Below w.heap.size w w' := pop_nil w
theorem key_nil' (id : Int) (w : World) : Calls Try.prog 23 #[.pointer none, .int .i64 id] w fun e w' => e = .returned (.tuple #[.agg #[.int .u64 0, .int .u64 0, .int .i64 0, .int .i64 0], .bool false]) ∧ Below w.heap.size w w' := key_nil id w

set_option maxHeartbeats 4000000 in
set_option maxRecDepth 100000 in
theorem wClones (a : Option Addr) (at_ : Int) (cap : Nat) (l : List Ac) (w : World) (hR : RowA w a l) (hL : l.length ≤ 9223372036854775807) :
    Calls Try.prog 8 #[.slice a l.length cap, .int .i64 at_] w fun e w' => e = .returned (.bool true) ∧ Below w.heap.size w w' := by
  have HR := Lib.hid hR
  have e0 : ∀ w, (binOp .neq 24 (.agg #[.int .u64 0, .int .u64 0, .int .i64 0, .int .i64 0]) (.agg #[.int .u64 0, .int .u64 0, .int .i64 0, .int .i64 0])).run Try.prog w = .ok (.bool false) w := fun w => neKey (0, 0, 0, 0) (0, 0, 0, 0) w
  clear hR
  go_enter Try.func8, Try.ntmps8
  go_wp2_with fail
  refine (pop_nil' _).mono ?_
  rintro e w1 ⟨rfl, hb⟩
  have HB1 := Lib.hid hb
  clear hb
  go_wp2_with fail
  refine (key_nil' 0 _).mono ?_
  rintro e w2 ⟨rfl, hb⟩
  have HB2 := Lib.hid (show Below w.heap.size w w2 from bl (bl HB1.out (show Below w1.heap.size w1 _ by go_grown)) hb)
  have k1 := (Blk.new w1 24 #[.int .u64 0, .int .u64 0, .int .i64 0, .int .i64 0]).below hb (by simp)
  have hlt := k1.lt
  have r0 := k1.cell 0
  have r1 := k1.cell 1
  have r2 := k1.cell 2
  have r3 := k1.cell 3
  simp at r0 r1 r2 r3
  clear hb k1
  go_wp2_with fail
  refine (len_nil _).mono ?_
  rintro e w3 ⟨rfl, hww⟩
  subst hww
  go_wp2_with fail
  refine (clone_nil _).mono ?_
  rintro e w3 ⟨rfl, hww⟩
  subst hww
  go_wp2_with fail
  refine (push_nil 1 (0, 0, 0, 0) _).mono ?_
  rintro e w3 ⟨rfl, hb⟩
  have HB3 := Lib.hid (show Below w.heap.size w w3 from bl (bl HB2.out (show Below w2.heap.size w2 _ by go_grown)) hb)
  clear hb
  go_wp2_with fail
  refine (lower_nil 1 (0, 0, 0, 0) _).mono ?_
  rintro e w4 ⟨rfl, hb⟩
  have HB4 := Lib.hid (bl HB3.out hb)
  clear hb HB1 HB2 HB3 r0 r1 r2 r3 hlt e0
  by_cases hg : 60 < l.length ∨ at_ < 0 ∨ (l.length : Int) < at_
  · by_cases h1 : 60 < l.length
    · have t1 : (60 : Int) < (l.length : Int) := by omega
      go_wp2_with fail
      refine (awake_true _).mono ?_
      rintro e w5 ⟨rfl, hb⟩
      have HB5 := Lib.hid (bl HB4.out hb)
      clear hb
      go_wp2_with fail
      go_ret
      exact ⟨rfl, HB5.out⟩
    · have t1 : ¬ (60 : Int) < (l.length : Int) := by omega
      by_cases h2 : at_ < 0
      · go_wp2_with fail
        refine (awake_true _).mono ?_
        rintro e w5 ⟨rfl, hb⟩
        have HB5 := Lib.hid (bl HB4.out hb)
        clear hb
        go_wp2_with fail
        go_ret
        exact ⟨rfl, HB5.out⟩
      · have h3 : (l.length : Int) < at_ := by omega
        go_wp2_with fail
        refine (awake_true _).mono ?_
        rintro e w5 ⟨rfl, hb⟩
        have HB5 := Lib.hid (bl HB4.out hb)
        clear hb
        go_wp2_with fail
        go_ret
        exact ⟨rfl, HB5.out⟩
  · obtain ⟨n, rfl⟩ : ∃ n : Nat, at_ = n := ⟨at_.toNat, by omega⟩
    have hn : n ≤ l.length := by omega
    have hl : l.length ≤ 60 := by omega
    have t1 : ¬ (60 : Int) < (l.length : Int) := by omega
    have t2 : ¬ (n : Int) < 0 := by omega
    have t3 : ¬ (l.length : Int) < (n : Int) := by omega
    clear hg
    have S4 := Lib.hid (show Sys w w4 [] from ⟨HB4.out, by simp, List.Pairwise.nil⟩)
    clear HB4
    go_wp2_with fail
    refine (sys_new S4.out).mono ?_
    rintro e w5 ⟨p, m, rfl, hs, _⟩
    have S5 := Lib.hid hs
    clear hs
    go_wp2_with fail
    refine (sys_new S5.out).mono ?_
    rintro e w6 ⟨q, j, rfl, hs, _⟩
    have S6 := Lib.hid hs.swap
    clear hs
    go_wp2_with fail
    clear t1 t2 t3
    go_loopw [13] (fun i wr => ∃ (k : Nat) (s t : Value), i = .int .i64 k ∧ k ≤ n ∧ Hid ((doN l k).length ≤ k) ∧ Hid (Sys w wr [(p, s, m, doN l k), (q, t, j, doN l k)]))
      (fun i _ => n - (intOf i).toNat)
    case atStart => exact ⟨0, _, _, rfl, by omega, Lib.hid (by simp [doN]), S6⟩
    case round =>
      obtain ⟨k, s, t, rfl, hk, HN, HS⟩ := hrel
      by_cases hkn : k < n
      · obtain ⟨b, off, rfl, hb, c0, c1, c2, c3, c4, c5⟩ := HR.out.at_ HS.out.below (i := k) (by omega)
        have HC := Lib.hid (fun (w' : World) (h : Below w.heap.size w w') => HR.out.at_ h (i := k) (by omega))
        have HD := Lib.hid (doN_succ l (n := k) (by omega))
        have HN2 := Lib.hid (show (doN l (k + 1)).length ≤ k + 1 by
          have h1 := do_len HS.out.once (l.getD k ac0)
          have h2 := HN.out
          rw [HD.out]
          omega)
        generalize l.getD k ac0 = x at *
        obtain ⟨d, id, x1, x2, x3, x4⟩ := x
        dsimp only at c0 c1 c2 c3 c4 c5
        have t1 : (k : Int) < (n : Int) := by omega
        have t2 : (0 : Int) ≤ (k : Int) := by omega
        have t3 : (k : Int) < (l.length : Int) := by omega
        go_wp2_with fail
        refine (sys_does HS.out (by have := HN.out; omega) (d, id, x1, x2, x3, x4)).mono ?_
        rintro e w7 ⟨rfl, s', hs, _⟩
        have S1 := Lib.hid hs.swap
        clear hs c0 c1 c2 c3 c4 c5
        obtain ⟨b', off', e1, _, c0, c1, c2, c3, c4, c5⟩ := HC.out w7 S1.out.below
        simp only [Option.some.injEq, Addr.mk.injEq, and_true] at e1
        obtain ⟨rfl, rfl⟩ := e1
        go_wp2_with fail
        refine (sys_does S1.out (by have := HN.out; omega) (d, id, x1, x2, x3, x4)).mono ?_
        rintro e w8 ⟨rfl, t', hs, _⟩
        have S2 := Lib.hid (show Sys w w8 [(p, s', m, doN l (k + 1)), (q, t', j, doN l (k + 1))] by rw [HD.out]; exact hs.swap)
        clear hs c0 c1 c2 c3 c4 c5
        go_wp2_with fail
        go_roundw
        case rel => exact ⟨k + 1, s', t', by go_num, by omega, HN2, S2⟩
        case measure => simp [intOf]; omega
      · obtain rfl : k = n := by omega
        have HN2 := Lib.hid (show (doN l k).length ≤ 60 by have := HN.out; omega)
        generalize doN l k = S at *
        clear HN
        have t1 : ¬ (k : Int) < (k : Int) := by omega
        go_wp2_with fail
        refine (sys_clone HS.out (by have := HN2.out; omega)).mono ?_
        rintro e w7 ⟨r, u, v, rfl, hs, _⟩
        have S7 := Lib.hid hs
        clear hs
        go_wp2_with fail
        refine (sys_len S7.out).mono ?_
        rintro e w8 ⟨rfl, hww⟩
        subst hww
        go_wp2_with fail
        refine (sys_len S7.out.swap).mono ?_
        rintro e w8 ⟨rfl, hww⟩
        subst hww
        go_wp2_with fail
        go_loopw [15] (fun i wr => ∃ (y : Nat) (z : Value) (T : List Th), i = .int .i64 y ∧ y ≤ l.length ∧ Hid (T.length ≤ 60 + y) ∧ Hid (Sys w wr [(r, z, v, T), (p, s, m, S), (q, t, j, S)]))
          (fun i _ => l.length - (intOf i).toNat)
        case atStart => exact ⟨k, u, S, rfl, hn, Lib.hid (by have := HN2.out; omega), S7⟩
        case round =>
          obtain ⟨y, z, T, rfl, hy, HT, HS⟩ := hrel
          by_cases hyl : y < l.length
          · obtain ⟨b, off, rfl, hb, c0, c1, c2, c3, c4, c5⟩ := HR.out.at_ HS.out.below hyl
            have HT2 := Lib.hid (show (doS T (l.getD y ac0)).length ≤ 60 + (y + 1) by
              have h1 := do_len HS.out.once (l.getD y ac0)
              have h2 := HT.out
              omega)
            generalize l.getD y ac0 = x at *
            obtain ⟨d, id, x1, x2, x3, x4⟩ := x
            dsimp only at c0 c1 c2 c3 c4 c5
            have t2 : (0 : Int) ≤ (y : Int) := by omega
            have t3 : (y : Int) < (l.length : Int) := by omega
            go_wp2_with fail
            refine (sys_does HS.out (by have := HT.out; omega) (d, id, x1, x2, x3, x4)).mono ?_
            rintro e w8 ⟨rfl, z', hs, _⟩
            have S1 := Lib.hid hs
            clear hs c0 c1 c2 c3 c4 c5
            go_wp2_with fail
            go_roundw
            case rel => exact ⟨y + 1, z', _, by go_num, by omega, HT2, S1⟩
            case measure => simp [intOf]; omega
          · have t3 : ¬ (y : Int) < (l.length : Int) := by omega
            have S8 := Lib.hid HS.out.tail
            go_wp2_with fail
            refine (sys_len S8.out).mono ?_
            rintro e w9 ⟨rfl, hww⟩
            subst hww
            go_wp2_with fail
            refine (sys_len S8.out.swap).mono ?_
            rintro e w9 ⟨rfl, hww⟩
            subst hww
            have t4 : ¬ (60 : Int) < (S.length : Int) := by have := HN2.out; omega
            clear t3
            go_wp2_with fail
            clear t4
            go_loopw [17] (fun i wr => ∃ (y : Nat) (s t : Value), i = .int .i64 y ∧ y ≤ S.length ∧ Hid (Sys w wr [(p, s, m, S.drop y), (q, t, j, S.drop y)]))
              (fun i _ => S.length - (intOf i).toNat)
            case atStart => exact ⟨0, s, t, rfl, by omega, S8⟩
            case round =>
              obtain ⟨y, s, t, rfl, hy, HS⟩ := hrel
              by_cases hys : y < S.length
              · have t5 : (y : Int) < (S.length : Int) := by omega
                have HV := Lib.hid (popV_drop hys)
                have HE := Lib.hid (fun w => neKey (g S y).2 (g S y).2 w)
                generalize g S y = x at *
                obtain ⟨id, x1, x2, x3, x4⟩ := x
                have e1 : ∀ w, (binOp .neq 24 (.agg #[.int .u64 x1, .int .u64 x2, .int .i64 x3, .int .i64 x4]) (.agg #[.int .u64 x1, .int .u64 x2, .int .i64 x3, .int .i64 x4])).run Try.prog w = .ok (.bool false) w := fun w => by have := HE.out w; simpa using this
                have HL := Lib.hid (show (S.drop y).length ≤ 1000000 by have := HN2.out; rw [List.length_drop]; omega)
                go_wp2_with fail
                refine (sys_pop HS.out HL.out HV.out (tail_drop S y)).mono ?_
                rintro e w9 ⟨s', rfl, hs, _⟩
                have S9 := Lib.hid (hs.mono (w' := w9.alloc (.cells #[.int .u64 x1, .int .u64 x2, .int .i64 x3, .int .i64 x4] 24)) (by go_grown)).swap
                have K9 := Lib.hid (Blk.new w9 24 #[.int .u64 x1, .int .u64 x2, .int .i64 x3, .int .i64 x4])
                have U9 := Lib.hid (hs.out (Nat.le_refl _)).swap
                clear hs
                go_wp2_with fail
                refine (sys_pop S9.out HL.out HV.out (tail_drop S y)).mono ?_
                rintro e w10 ⟨t', rfl, hs, hf⟩
                have k9 := hf.blk K9.out U9.out
                have r0 := k9.cell 0
                have r1 := k9.cell 1
                have r2 := k9.cell 2
                have r3 := k9.cell 3
                have hlt := k9.lt
                simp at r0 r1 r2 r3
                have S10 := Lib.hid (hs.mono (w' := w10.alloc (.cells #[.int .u64 x1, .int .u64 x2, .int .i64 x3, .int .i64 x4] 24)) (by go_grown)).swap
                clear hs hf k9
                go_wp2_with fail
                go_roundw
                case rel => exact ⟨y + 1, s', t', by go_num, by omega, S10⟩
                case measure => simp [intOf]; omega
              · have t5 : ¬ (y : Int) < (S.length : Int) := by omega
                go_wp2_with fail
                refine (awake_true _).mono ?_
                rintro e w9 ⟨rfl, hb⟩
                have HB9 := Lib.hid (bl HS.out.below hb)
                clear hb
                go_wp2_with fail
                go_ret
                exact ⟨rfl, HB9.out⟩
end Go.Proofs.Ytffgjjlamdaajaa
