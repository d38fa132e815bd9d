/- The walk of the law CacheMore: for every input it returns true, and writes to new memory alone. -/
import Derived.Test.YtoecclpfgdfpoaaG
import Derived.StillTailTactics
namespace Go.Proofs.Ytoecclpfgdfpoaa
open Go.RowKit

/-- Two things with rows, apart from one another, in memory from B on. -/
structure Two (B p : Nat) (s : Value) (q : Nat) (t : Value) : Prop where
  hp : B ≤ p
  hq : B ≤ q
  hs : ∀ b, s.ownBlock = some b → B ≤ b
  ht : ∀ b, t.ownBlock = some b → B ≤ b
  apart : ∀ b, O p s b → ¬ O q t b

theorem Two.swap {B p q : Nat} {s t : Value} (h : Two B p s q t) : Two B q t p s := ⟨h.hq, h.hp, h.ht, h.hs, fun b h1 h2 => h.apart b h2 h1⟩
/-- Behind a call on the first one. -/
theorem Two.step {B p q : Nat} {s s' t : Value} {w : World} (h : Two B p s q t) (hf : Fresh w s s') (hB : B ≤ w.heap.size) (hlt : ∀ b, O q t b → b < w.heap.size) : Two B p s' q t :=
  ⟨h.hp, h.hq, fresh_from hf h.hs hB, h.ht, fun b h1 h2 => by
    rcases h1 with e | e
    · exact h.apart b (.inl e) h2
    · rcases hf b e with e | e
      · exact h.apart b (.inr e) h2
      · have := hlt b h2; omega⟩

/-- Behind a put into the first one: the second one is as it was. -/
theorem two_put {w0 wr w3 : World} {p q : Nat} {s s' t : Value} {room : Int} {l : List Th} (T : Two w0.heap.size p s q t) (Y : Cch wr q t room l) (BB : Below w0.heap.size w0 wr)
    (hk : Kept (O p s) wr.drew w3) (hf : Fresh wr.drew s s') : Two w0.heap.size p s' q t ∧ Cch w3 q t room l ∧ Below w0.heap.size wr w3 :=
  ⟨T.step (w := wr.drew) hf BB.size (fun _ hb => Y.lt hb), (Y.fresh ((Below.refl _ _).drew)).kept hk (fun b hb h => T.apart b h hb), ((Below.refl _ _).drew).trans (cache_below hk T.hp T.hs BB.size)⟩

theorem row_len {w : World} {s : Value} {n : Nat} {l : List Int} (h : Own w 3 1 s n (ints l)) : ∃ a c, s = .slice a l.length c ∧ n = l.length ∧ RowI w a l ∧ l.length ≤ c ∧ c ≤ 9223372036854775807 := by
  obtain ⟨a, c, h1, h2, h3⟩ := row_of_own h
  refine ⟨a, c, h1, h2, h3, ?_⟩
  subst h1 h2
  by_cases h0 : 0 < l.length
  · obtain ⟨g, cap, cur, e1, _, e2, e3, _⟩ := h.of_pos h0
    simp only [Value.slice.injEq, true_and] at e1
    obtain ⟨_, rfl⟩ := e1
    exact ⟨e2, e3⟩
  · rcases h.2 with ⟨e, _⟩ | ⟨g, cap, cur, e, _, _, e2, e3, _⟩
    · simp at e; omega
    · simp only [Value.slice.injEq, true_and] at e
      obtain ⟨_, rfl⟩ := e
      exact ⟨e2, by simp only [maxLen] at e3; omega⟩

theorem RowI.take {w : World} {a : Option Addr} {xs : List Int} (h : RowI w a xs) (n : Nat) : RowI w a (xs.take n) := by
  rcases h with e | ⟨b, off, h1, h2, h3⟩
  · exact .inl (by rw [e, List.take_nil])
  · refine .inr ⟨b, off, h1, h2, fun i hi => ?_⟩
    rw [List.length_take] at hi
    rw [h3 i (by omega)]
    simp [List.getD_eq_getElem?_getD, show i < n by omega]

theorem ints_n (n : Nat) (a b : Option Addr) (c d : Nat) (xs : List Int) (w : World) (ha : RowI w a xs) (hb : RowI w b xs) (hx : xs.length = n) (hl : n ≤ 1000000) :
    Calls Try.prog 21 #[.slice a n c, .slice b n d] w fun e w' => e = .returned (.bool true) ∧ Below w.heap.size w w' := by
  subst hx
  exact ints_any a b c d xs w ha hb hl

/-- A number in a room: the same list, in naturals. -/
theorem room_nat {room : Int} (h1 : 1 ≤ room) : ∃ r : Nat, room = (r : Int) ∧ 1 ≤ r := ⟨room.toNat, by omega, by omega⟩

set_option maxRecDepth 100000 in
set_option maxHeartbeats 4000000 in
theorem wMore_run (r q : Nat) (a : Option Addr) (cap : Nat) (l : List Ac) (w : World) (ha : RowA w a l) (h1 : 1 ≤ r) (hrq : r ≤ q) (hq : q ≤ 16) (hl : l.length ≤ 100) :
    Calls Try.prog 4 #[.int .i64 r, .int .i64 q, .slice a l.length cap] w fun e w' => e = .returned (.bool true) ∧ Below w.heap.size w w' := by
  have HA := Lib.hid ha
  have HL := Lib.hid (fun k hk => puts_snoc (r : Int) l k hk)
  have HL2 := Lib.hid (fun k hk => puts_snoc (q : Int) l k hk)
  have HM := Lib.hid (fun k hk => more_told (more_puts h1 hrq l k hk))
  have HB1 := Lib.hid (fun k => puts_len (room := (r : Int)) (by omega) (l.take k))
  have HB2 := Lib.hid (fun k => puts_len (room := (q : Int)) (by omega) (l.take k))
  have hr1 : (1 : Int) ≤ (r : Int) := by omega
  have hr2 : (r : Int) ≤ 16 := by omega
  have hq1 : (1 : Int) ≤ (q : Int) := by omega
  have hq2 : (q : Int) ≤ 16 := by omega
  have hd : decide (q < r) = false := by simp; omega
  clear ha
  go_enter Try.func4, Try.ntmps4
  go_wp2_with fail
  refine (new_yes r hr1 hr2 _).mono ?_
  rintro e w1 ⟨p1, rfl, hc1, hp1, hb1⟩
  have B1 := Lib.hid hb1
  have C1 := Lib.hid hc1
  clear hb1 hc1
  go_wp2_with fail
  refine (new_yes q hq1 hq2 _).mono ?_
  rintro e w2 ⟨p2, rfl, hc2, hp2, hb2⟩
  have B2 := Lib.hid (bl B1.out hb2)
  have C2 := Lib.hid hc2
  have HK := Lib.hid (C1.out.fresh hb2)
  have hpp : p1 < p2 := Nat.lt_of_lt_of_le C1.out.blk.lt hp2
  have hp2' : w.heap.size ≤ p2 := by have := B1.out.size; omega
  have T := Lib.hid (show Two w.heap.size p1 (.slice none 0 0) p2 (.slice none 0 0) from ⟨hp1, hp2', fun b h => by simp [Value.ownBlock] at h, fun b h => by simp [Value.ownBlock] at h, fun b h h' => by
    simp [O, Value.ownBlock] at h h'; omega⟩)
  clear hb2 hc2 hp1 hp2 hpp hp2'
  go_wp2_with fail
  go_loopw [11] (fun i wr => ∃ k : Nat, k ≤ l.length ∧ i = .int .i64 k ∧ ∃ s1 s2, Cch wr p1 s1 r (puts r (l.take k)) ∧ Cch wr p2 s2 q (puts q (l.take k)) ∧ Two w.heap.size p1 s1 p2 s2 ∧ Below w.heap.size w wr)
    (fun i _ => l.length - (intOf i).toNat)
  case atStart => exact ⟨0, by omega, rfl, _, _, HK.out, C2.out, T.out, B2.out⟩
  case round =>
    obtain ⟨k, hk, rfl, s1, s2, hx, hy, ht, hb⟩ := hrel
    have X := Lib.hid hx
    have Y := Lib.hid hy
    have TT := Lib.hid ht
    have BB := Lib.hid hb
    clear hx hy ht hb C1 C2 HK T B1 B2
    by_cases hlt : k < l.length
    · obtain ⟨b, off, rfl, hbw, q0, q1, q2⟩ := HA.out.at_ BB.out hlt
      have k0 : (0 : Int) ≤ (k : Int) := by omega
      have k1 : (k : Int) < (l.length : Int) := by omega
      have HLk := Lib.hid (HL.out k hlt)
      have HLk2 := Lib.hid (HL2.out k hlt)
      generalize (l.getD k (0, 0, 0)).2.1 = key at *
      generalize (l.getD k (0, 0, 0)).2.2 = v at *
      clear q0
      go_wp2_with fail
      go_still_tail 11, (by kernel_rfl)
      change wpList _ _ _ _ _ wr.drew
      go_wp2_with fail
      refine (put_any p1 s1 r _ key v _ (by exact (X.out.fresh ((Below.refl _ _).drew))) (HB1.out k) hr1 hr2).mono ?_
      rintro e w3 ⟨s1', rfl, hc, hk, hf⟩
      rw [← HLk.out] at hc
      obtain ⟨t3, y3, b3⟩ := two_put TT.out Y.out BB.out hk hf
      have X3 := Lib.hid hc
      have Y3 := Lib.hid y3
      have T3 := Lib.hid t3
      have B3 := Lib.hid (BB.out.trans b3)
      have q13 := (b3.cell (p := ⟨b, off + k * 3 + 1, none⟩) hbw).trans q1
      have q23 := (b3.cell (p := ⟨b, off + k * 3 + 2, none⟩) hbw).trans q2
      clear hc hk hf t3 y3 b3
      go_wp2_with fail
      go_still_tail 11, (by kernel_rfl)
      change wpList _ _ _ _ _ w3.drew
      go_wp2_with fail
      refine (put_any p2 s2 q _ key v _ (by exact (Y3.out.fresh ((Below.refl _ _).drew))) (HB2.out k) hq1 hq2).mono ?_
      rintro e w4 ⟨s2', rfl, hc, hk, hf⟩
      rw [← HLk2.out] at hc
      obtain ⟨t4, x4, b4⟩ := two_put T3.out.swap X3.out B3.out hk hf
      have X4 := Lib.hid x4
      have Y4 := Lib.hid hc
      have T4 := Lib.hid t4.swap
      have B4 := Lib.hid (B3.out.trans b4)
      clear hc hk hf t4 x4 b4 q13 q23 q1 q2
      obtain ⟨hm1, hm2, hm3⟩ := HM.out (k + 1) hlt
      have M2 := Lib.hid hm2
      have M3 := Lib.hid hm3
      have hA := HB1.out (k + 1)
      have hB := HB2.out (k + 1)
      generalize hA1 : puts (r : Int) (l.take (k + 1)) = A at *
      generalize hC1 : puts (q : Int) (l.take (k + 1)) = C at *
      have EA := Lib.hid hA1
      have EC := Lib.hid hC1
      clear hA1 hC1
      clear hm2 hm3 X Y TT BB X3 Y3 T3 B3 HLk HLk2
      go_wp2_with fail
      refine (keys_any p1 s1' r A _ X4.out (by omega)).mono ?_
      rintro e w5 ⟨k1s, rfl, ho, hbo, hb5⟩
      have X5 := Lib.hid (X4.out.fresh hb5)
      have Y5 := Lib.hid (Y4.out.fresh hb5)
      have B5 := Lib.hid (bl B4.out hb5)
      obtain ⟨a5, c5, rfl, hn5, r5, hc5, hc5'⟩ := row_len ho
      have R5 := Lib.hid r5
      clear ho hbo hb5 r5
      go_wp2_with fail
      refine (keys_any p2 s2' q C _ Y5.out (by omega)).mono ?_
      rintro e w6 ⟨k2s, rfl, ho, hbo, hb6⟩
      have X6 := Lib.hid (X5.out.fresh hb6)
      have Y6 := Lib.hid (Y5.out.fresh hb6)
      have B6 := Lib.hid (bl B5.out hb6)
      have R6 := Lib.hid (R5.out.fresh hb6)
      obtain ⟨a6, c6, rfl, hn6, r6, hc6, hc6'⟩ := row_len ho
      have R7 := Lib.hid (r6.take A.length)
      clear ho hbo hb6 r6 X4 Y4 B4 X5 Y5 B5 R5
      rw [keys_len] at hc5 hc6
      rw [keys_len A, keys_len C]
      clear hn5 hn6
      have d1 : decide (C.length < A.length) = false := by simp; omega
      have d2 : (A.length : Int) ≤ (c6 : Int) := by omega
      have d3 : (0 : Int) ≤ (A.length : Int) := by omega
      go_wp2_with fail
      rw [M2.out] at R7
      refine (ints_n A.length a5 a6 c5 c6 (keys A) _ R6.out R7.out (keys_len A) (by omega)).mono ?_
      rintro e w7 ⟨rfl, hb7⟩
      have X7 := Lib.hid (X6.out.fresh hb7)
      have Y7 := Lib.hid (Y6.out.fresh hb7)
      have B7 := Lib.hid (bl B6.out hb7)
      have R8 := Lib.hid (R6.out.fresh hb7)
      clear hb7 X6 Y6 B6 R6 R7 d1 d2 hc5 hc6
      go_wp2_with fail
      obtain ⟨wo, hwo⟩ : ∃ wo : World, wo = w7 := ⟨_, rfl⟩
      subst hwo
      go_loopw [14] (fun j wq => ∃ m : Nat, m ≤ A.length ∧ j = .int .i64 m ∧ Below wo.heap.size wo wq)
        (fun j _ => A.length - (intOf j).toNat)
      case atStart => exact ⟨0, by omega, rfl, Below.refl _ _⟩
      case round =>
        obtain ⟨m, hm, rfl, hbq⟩ := hrel
        have BQ := Lib.hid hbq
        clear hbq
        by_cases hmt : m < A.length
        · obtain ⟨b8, o8, rfl, hb8, q8⟩ := R8.out.at_ (show m < (keys A).length by rw [keys_len]; exact hmt)
          replace q8 := (BQ.out.cell (p := ⟨b8, o8 + m, none⟩) hb8).trans q8
          have m0 : (0 : Int) ≤ (m : Int) := by omega
          have m1 : (m : Int) < (A.length : Int) := by omega
          obtain ⟨z1, z2, z3⟩ := M3.out m hmt
          have X8 := Lib.hid (X7.out.fresh BQ.out)
          have Y8 := Lib.hid (Y7.out.fresh BQ.out)
          generalize (keys A).getD m 0 = key' at *
          have P1 := Lib.hid (fun W hW => peek_yes p1 s1' r A key' W (X8.out.fresh hW) (by omega) z1)
          have P2 := Lib.hid (fun W hW => by have := peek_yes p2 s2' q C key' W (Y8.out.fresh hW) (by omega) z2; rw [z3] at this; exact this)
          generalize val A key' = v' at *
          clear z1 z2 z3
          go_wp2_with fail
          refine (P1.out _ (Below.refl _ _)).mono ?_
          rintro e w8 ⟨rfl, hb⟩
          have q9 := (hb.cell (p := ⟨b8, o8 + m, none⟩) (Nat.lt_of_lt_of_le hb8 BQ.out.size)).trans q8
          have B8 := Lib.hid hb
          clear hb
          go_wp2_with fail
          refine (P2.out _ B8.out).mono ?_
          rintro e w9 ⟨rfl, hb⟩
          have B9 := Lib.hid (bl BQ.out (bl B8.out hb))
          clear hb
          go_wp2_with fail
          go_roundw
          case rel => exact ⟨m + 1, by omega, by go_num, B9.out⟩
          case measure => simp [intOf]; omega
        · have X9 := Lib.hid (X7.out.fresh BQ.out)
          have Y9 := Lib.hid (Y7.out.fresh BQ.out)
          have B9 := Lib.hid (bl B7.out BQ.out)
          go_wp2_with fail
          go_roundw
          case rel => exact ⟨k + 1, by omega, by go_num, s1', s2', by rw [EA.out]; exact X9.out, by rw [EC.out]; exact Y9.out, T4.out, B9.out⟩
          case measure => simp [intOf]; omega
    · go_wp2_with fail
      refine (awake_any _).mono ?_
      rintro e w3 ⟨rfl, hb⟩
      have B9 := Lib.hid (bl BB.out hb)
      clear hb
      go_wp2
      go_ret
      exact ⟨rfl, B9.out⟩

theorem ok_room (room : Int) : (1 ≤ room ∧ room ≤ 16) ∨ (room < 1 ∨ 16 < room) := by omega

set_option maxHeartbeats 2000000 in
theorem wMore_no1 (less more : Int) (a : Option Addr) (n cap : Nat) (w : World) (h1 : less < 1 ∨ 16 < less) (h2 : more < 1 ∨ 16 < more) :
    Calls Try.prog 4 #[.int .i64 less, .int .i64 more, .slice a n cap] w fun e w' => e = .returned (.bool true) ∧ Below w.heap.size w w' := by
  have H1 := Lib.hid h1
  have H2 := Lib.hid h2
  clear h1 h2
  go_enter Try.func4, Try.ntmps4
  go_wp2_with fail
  refine (new_no less H1.out _).mono ?_
  rintro e w1 ⟨rfl, rfl⟩
  go_wp2_with fail
  refine (new_no more H2.out _).mono ?_
  rintro e w1 ⟨rfl, rfl⟩
  go_wp2_with fail
  refine (awake_any _).mono ?_
  rintro e w1 ⟨rfl, hb⟩
  go_wp2
  go_ret
  exact ⟨rfl, hb⟩

set_option maxHeartbeats 2000000 in
theorem wMore_no2 (less more : Int) (a : Option Addr) (n cap : Nat) (w : World) (h1 : less < 1 ∨ 16 < less) (h2 : 1 ≤ more ∧ more ≤ 16) :
    Calls Try.prog 4 #[.int .i64 less, .int .i64 more, .slice a n cap] w fun e w' => e = .returned (.bool true) ∧ Below w.heap.size w w' := by
  have H1 := Lib.hid h1
  have H2 := Lib.hid h2
  clear h1 h2
  go_enter Try.func4, Try.ntmps4
  go_wp2_with fail
  refine (new_no less H1.out _).mono ?_
  rintro e w1 ⟨rfl, rfl⟩
  go_wp2_with fail
  refine (new_yes more H2.out.1 H2.out.2 _).mono ?_
  rintro e w1 ⟨p, rfl, _, _, hb⟩
  have B1 := Lib.hid hb
  clear hb
  go_wp2_with fail
  refine (awake_any _).mono ?_
  rintro e w2 ⟨rfl, hb⟩
  have B2 := Lib.hid (bl B1.out hb)
  clear hb
  go_wp2
  go_ret
  exact ⟨rfl, B2.out⟩

set_option maxHeartbeats 2000000 in
theorem wMore_no3 (less more : Int) (a : Option Addr) (n cap : Nat) (w : World) (h1 : 1 ≤ less ∧ less ≤ 16) (h2 : more < 1 ∨ 16 < more) :
    Calls Try.prog 4 #[.int .i64 less, .int .i64 more, .slice a n cap] w fun e w' => e = .returned (.bool true) ∧ Below w.heap.size w w' := by
  have H1 := Lib.hid h1
  have H2 := Lib.hid h2
  clear h1 h2
  go_enter Try.func4, Try.ntmps4
  go_wp2_with fail
  refine (new_yes less H1.out.1 H1.out.2 _).mono ?_
  rintro e w1 ⟨p, rfl, _, _, hb⟩
  have B1 := Lib.hid hb
  clear hb
  go_wp2_with fail
  refine (new_no more H2.out _).mono ?_
  rintro e w1 ⟨rfl, rfl⟩
  go_wp2_with fail
  refine (awake_any _).mono ?_
  rintro e w2 ⟨rfl, hb⟩
  have B2 := Lib.hid (bl B1.out hb)
  clear hb
  go_wp2
  go_ret
  exact ⟨rfl, B2.out⟩

set_option maxHeartbeats 2000000 in
theorem wMore_no4 (less more : Int) (a : Option Addr) (n cap : Nat) (w : World) (h1 : 1 ≤ less ∧ less ≤ 16) (h2 : 1 ≤ more ∧ more ≤ 16) (hn : n ≤ 9223372036854775807) (h : more < less ∨ 100 < n) :
    Calls Try.prog 4 #[.int .i64 less, .int .i64 more, .slice a n cap] w fun e w' => e = .returned (.bool true) ∧ Below w.heap.size w w' := by
  have H1 := Lib.hid h1
  have H2 := Lib.hid h2
  clear h1 h2
  by_cases hm : more < less
  · clear h
    go_enter Try.func4, Try.ntmps4
    go_wp2_with fail
    refine (new_yes less H1.out.1 H1.out.2 _).mono ?_
    rintro e w1 ⟨p, rfl, _, _, hb⟩
    have B1 := Lib.hid hb
    clear hb
    go_wp2_with fail
    refine (new_yes more H2.out.1 H2.out.2 _).mono ?_
    rintro e w2 ⟨p2, rfl, _, _, hb⟩
    have B2 := Lib.hid (bl B1.out hb)
    clear hb
    go_wp2_with fail
    refine (awake_any _).mono ?_
    rintro e w3 ⟨rfl, hb⟩
    have B3 := Lib.hid (bl B2.out hb)
    clear hb
    go_wp2
    go_ret
    exact ⟨rfl, B3.out⟩
  · have h100 : 100 < n := by omega
    clear h
    go_enter Try.func4, Try.ntmps4
    go_wp2_with fail
    refine (new_yes less H1.out.1 H1.out.2 _).mono ?_
    rintro e w1 ⟨p, rfl, _, _, hb⟩
    have B1 := Lib.hid hb
    clear hb
    go_wp2_with fail
    refine (new_yes more H2.out.1 H2.out.2 _).mono ?_
    rintro e w2 ⟨p2, rfl, _, _, hb⟩
    have B2 := Lib.hid (bl B1.out hb)
    clear hb
    go_wp2_with fail
    refine (awake_any _).mono ?_
    rintro e w3 ⟨rfl, hb⟩
    have B3 := Lib.hid (bl B2.out hb)
    clear hb
    go_wp2
    go_ret
    exact ⟨rfl, B3.out⟩

theorem wMore (less more : Int) (a : Option Addr) (cap : Nat) (l : List Ac) (w : World) (ha : RowA w a l) (hl : l.length ≤ 9223372036854775807) :
    Calls Try.prog 4 #[.int .i64 less, .int .i64 more, .slice a l.length cap] w fun e w' => e = .returned (.bool true) ∧ Below w.heap.size w w' := by
  rcases ok_room less with h1 | h1
  · rcases ok_room more with h2 | h2
    · by_cases h : more < less ∨ 100 < l.length
      · exact wMore_no4 less more a l.length cap w h1 h2 hl h
      · obtain ⟨r, rfl, hr⟩ := room_nat h1.1
        obtain ⟨q, rfl, hq⟩ := room_nat h2.1
        exact wMore_run r q a cap l w ha hr (by omega) (by omega) (by omega)
    · exact wMore_no3 less more a l.length cap w h1 h2
  · rcases ok_room more with h2 | h2
    · exact wMore_no2 less more a l.length cap w h1 h2
    · exact wMore_no1 less more a l.length cap w h1 h2
end Go.Proofs.Ytoecclpfgdfpoaa
