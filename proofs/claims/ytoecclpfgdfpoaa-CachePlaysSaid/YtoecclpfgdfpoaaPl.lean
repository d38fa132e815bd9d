/- The walk of the law CachePlays: for every input it returns true, and writes to new memory alone. -/
import Derived.Test.YtoecclpfgdfpoaaZ
import Derived.Test.YtoecclpfgdfpoaaH
import Derived.Deep.DeepCutAuto
import Derived.Deep.CutBlock
namespace Go.Proofs.Ytoecclpfgdfpoaa
open Go.RowKit

/-- A cache and the reference's, with the same things, apart from one another, in memory from B on. -/
structure PlaySt (B : Nat) (w0 w : World) (p : Nat) (s : Value) (q : Nat) (t : Value) (room : Int) (L : List Th) : Prop where
  c1 : Cch w p s room L
  c2 : Rch w q t room L
  two : Two B p s q t
  ln : (L.length : Int) ≤ room
  bb : Below B w0 w

/-- The same, with two lists: the one call has been made, the other not yet. -/
structure HalfSt (B : Nat) (w0 w : World) (p : Nat) (s : Value) (q : Nat) (t : Value) (room : Int) (L M : List Th) : Prop where
  c1 : Cch w p s room L
  c2 : Rch w q t room M
  two : Two B p s q t
  bb : Below B w0 w

theorem PlaySt.fresh {w0 w w' : World} {p q : Nat} {s t : Value} {room : Int} {L : List Th} (h : PlaySt w0.heap.size w0 w p s q t room L) (hb : Below w.heap.size w w') : PlaySt w0.heap.size w0 w' p s q t room L :=
  ⟨h.c1.fresh hb, h.c2.fresh hb, h.two, h.ln, bl h.bb hb⟩
theorem HalfSt.fresh {w0 w w' : World} {p q : Nat} {s t : Value} {room : Int} {L M : List Th} (h : HalfSt w0.heap.size w0 w p s q t room L M) (hb : Below w.heap.size w w') : HalfSt w0.heap.size w0 w' p s q t room L M :=
  ⟨h.c1.fresh hb, h.c2.fresh hb, h.two, bl h.bb hb⟩
theorem PlaySt.one {w0 w w' : World} {p q : Nat} {s s' t : Value} {room : Int} {L L' : List Th} (h : PlaySt w0.heap.size w0 w p s q t room L)
    (hc : Cch w' p s' room L') (hk : Kept (O p s) w w') (hf : Fresh w s s') : HalfSt w0.heap.size w0 w' p s' q t room L' L :=
  ⟨hc, h.c2.kept hk (fun b hb h2 => h.two.apart b h2 hb), h.two.step hf h.bb.size (fun b hb => h.c2.lt hb), h.bb.trans (cache_below hk h.two.hp h.two.hs h.bb.size)⟩
theorem HalfSt.two_ {w0 w w' : World} {p q : Nat} {s t t' : Value} {room : Int} {L M : List Th} (h : HalfSt w0.heap.size w0 w p s q t room L M)
    (hc : Rch w' q t' room L) (hk : Kept (O q t) w w') (hf : Fresh w t t') (hl : (L.length : Int) ≤ room) : PlaySt w0.heap.size w0 w' p s q t' room L :=
  ⟨h.c1.kept hk (fun b hb h2 => h.two.apart b hb h2), hc, (h.two.swap.step hf h.bb.size (fun b hb => h.c1.lt hb)).swap, hl, h.bb.trans (cache_below hk h.two.hq h.two.ht h.bb.size)⟩

theorem rput_any (p : Nat) (s : Value) (room : Int) (l : List Th) (k v : Int) (w : World) (h : Rch w p s room l) (hl : (l.length : Int) ≤ room) (h1 : 1 ≤ room) (h2 : room ≤ 16) :
    Calls Try.prog 33 #[.pointer (some ⟨p, 0, none⟩), .int .i64 k, .int .i64 v] w (RPost p s room (putL room l k v) (.tuple #[.int .i64 (goneK room l k), .bool (goneB room l k)]) w) := by
  cases hk : has l k
  · by_cases hr : (l.length : Int) = room
    · exact rput_full p s room l k v w h (by omega) hk hr (by omega)
    · exact rput_room p s room l k v w h (by omega) hk (by omega)
  · exact rput_there p s room l k v w h (by omega) hk

/-- Three cells of a new block. -/
def Cells3 (w : World) (b : Nat) (x0 x1 x2 : Int) : Prop := b < w.heap.size ∧ w.cell? ⟨b, 0, none⟩ = some (.int .i64 x0) ∧ w.cell? ⟨b, 1, none⟩ = some (.int .i64 x1) ∧ w.cell? ⟨b, 2, none⟩ = some (.int .i64 x2)
theorem Cells3.kept {w w' : World} {b : Nat} {x0 x1 x2 : Int} {S : Nat → Prop} (h : Cells3 w b x0 x1 x2) (hk : Kept S w w') (hS : ¬ S b) : Cells3 w' b x0 x1 x2 :=
  ⟨Nat.lt_of_lt_of_le h.1 hk.size, (hk.cell h.1 hS).trans h.2.1, (hk.cell h.1 hS).trans h.2.2.1, (hk.cell h.1 hS).trans h.2.2.2⟩
theorem Cells3.fresh {w w' : World} {b : Nat} {x0 x1 x2 : Int} (h : Cells3 w b x0 x1 x2) (hb : Below w.heap.size w w') : Cells3 w' b x0 x1 x2 := h.kept (Kept.of_fresh hb (fun _ => False)) id

set_option maxRecDepth 100000 in
set_option maxHeartbeats 8000000 in
theorem wPlays_run (R : Nat) (a : Option Addr) (cap : Nat) (l : List Ac) (w : World) (ha : RowA w a l) (hR1 : 1 ≤ R) (hR : R ≤ 16) (hl : l.length ≤ 200) :
    Calls Try.prog 7 #[.int .i64 (R : Int), .slice a l.length cap] w fun e w' => e = .returned (.bool true) ∧ Below w.heap.size w w' := by
  have HA := Lib.hid ha
  have hr1 : (1 : Int) ≤ (R : Int) := by omega
  have hr2 : (R : Int) ≤ 16 := by omega
  clear ha
  go_enter Try.func7, Try.ntmps7
  go_wp2_with fail
  refine (new_yes R hr1 hr2 _).mono ?_
  rintro e w1 ⟨p, rfl, hc1, hp1, hb1⟩
  have C1 := Lib.hid hc1
  have B1 := Lib.hid hb1
  have P1 := Lib.hid hp1
  clear hc1 hp1 hb1
  go_wp2_with fail
  refine (len_any p _ R [] _ C1.out).mono ?_
  rintro e w2 ⟨rfl, rfl⟩
  go_wp2_with fail
  have ST := Lib.hid (show PlaySt w.heap.size w (w1.alloc (.cells #[.int .i64 (R : Int), .slice none 0 0] 59)) p (.slice none 0 0) w1.heap.size (.slice none 0 0) R [] from
    ⟨C1.out.fresh ((Below.refl _ _).alloc (Nat.le_refl _) _), ⟨Blk.new _ _ _, Own.nil _ _ _, by simp [Value.ownBlock]⟩, ⟨P1.out, B1.out.size, fun b h => by simp [Value.ownBlock] at h, fun b h => by simp [Value.ownBlock] at h, fun b h h' => by
      have := C1.out.blk.lt
      simp [O, Value.ownBlock] at h h'; omega⟩, by simp, B1.out.alloc B1.out.size _⟩)
  obtain ⟨q, hq⟩ : ∃ q, q = w1.heap.size := ⟨_, rfl⟩
  rw [← hq] at ST ⊢
  clear hq
  go_loopw [8] (fun i wr => ∃ (k : Nat) (s t : Value) (L : List Th), k ≤ l.length ∧ i = .int .i64 k ∧ PlaySt w.heap.size w wr p s q t R L)
    (fun i _ => l.length - (intOf i).toNat)
  case atStart => exact ⟨0, _, _, _, by omega, rfl, ST.out⟩
  case round =>
    obtain ⟨k, s, t, L, hk, rfl, hst⟩ := hrel
    have HS := Lib.hid hst
    have hll := hst.ln
    clear hst ST C1 B1 P1
    by_cases hlt : k < l.length
    · obtain ⟨b, off, rfl, hbw, q0, q1, q2⟩ := HA.out.at_ HS.out.bb hlt
      have k0 : (0 : Int) ≤ (k : Int) := by omega
      have k1 : (k : Int) < (l.length : Int) := by omega
      generalize l.getD k (0, 0, 0) = x at *
      obtain ⟨x0, x1, x2⟩ := x
      simp only at q0 q1 q2
      have H0 := Lib.hid (HS.out.fresh ((Below.refl wr.heap.size wr).alloc (Nat.le_refl _) (.cells #[.int .i64 x0, .int .i64 x1, .int .i64 x2] 35)))
      have X0 := Lib.hid (show Cells3 (wr.alloc (.cells #[.int .i64 x0, .int .i64 x1, .int .i64 x2] 35)) wr.heap.size x0 x1 x2 from ⟨by simp, by simp, by simp, by simp⟩)
      have NO := Lib.hid (show ¬ O p s wr.heap.size ∧ ¬ O q t wr.heap.size from ⟨fun h => by have := HS.out.c1.lt h; omega, fun h => by have := HS.out.c2.lt h; omega⟩)
      go_upto_block 2 with fail
      go_cut [10] (fun _ wx => ∃ sz uz Lz, PlaySt w.heap.size w wx p sz q uz R Lz)
      case first =>
        by_cases c0 : x0 = 0
        · subst c0
          obtain ⟨vv, hvv⟩ : ∃ vv, vv = (if has L x1 = true then val L x1 else 0) := ⟨_, rfl⟩
          obtain ⟨hh, hhh⟩ : ∃ hh, hh = has L x1 := ⟨_, rfl⟩
          have HV := Lib.hid hvv
          have HHH := Lib.hid hhh
          clear hvv hhh
          go_wp2_with fail
          refine (get_any p s R L x1 _ H0.out.c1 (by omega)).mono ?_
          rintro e w3 ⟨rfl, hc, hkk⟩
          rw [← HV.out, ← HHH.out]
          have H3 := Lib.hid (H0.out.one hc hkk (fun b hb => .inl hb))
          have X3 := Lib.hid (X0.out.kept hkk NO.out.1)
          clear hc hkk
          obtain ⟨bx, y0, y1, y2⟩ := X3.out
          go_wp2_with fail
          refine (rget_any q t R L x1 _ H3.out.c2 (by omega)).mono ?_
          rintro e wz ⟨tz, rfl, hc, hkk, hf⟩
          have ST := Lib.hid (H3.out.two_ hc hkk hf (by rw [getL_len]; exact hll))
          clear hc hkk hf H3 X3 y0 y1 y2 bx
          rw [← HV.out, ← HHH.out]
          go_wp2_with fail
          go_meet
          exact ⟨_, _, _, ST.out⟩
        · by_cases c1 : x0 = 1
          · subst c1
            cases hh : has L x1
            · have HF := Lib.hid (fun W (hW : Rch W q t R L) => rfind_none q t R L x1 W hW (by omega) (not_has hh))
              have HP := Lib.hid (fun W (hW : Cch W p s R L) => peek_no p s R L x1 W hW (by omega) hh)
              clear hh c0
              go_wp2_with fail
              refine (HP.out _ H0.out.c1).mono ?_
              rintro e wz ⟨rfl, hb⟩
              have ST := Lib.hid (H0.out.fresh hb)
              have X3 := Lib.hid (X0.out.fresh hb)
              clear hb
              obtain ⟨bx, y0, y1, y2⟩ := X3.out
              go_wp2_with fail
              refine (HF.out _ ST.out.c2).mono ?_
              rintro e w4 ⟨rfl, rfl⟩
              clear y0 y1 y2 bx
              go_wp2_with fail
              go_meet
              exact ⟨_, _, _, ST.out⟩
            · obtain ⟨h1, h2, h3, h4, _⟩ := pos_spec hh
              have HF := Lib.hid (fun W (hW : Rch W q t R L) => rfind_some q t R L x1 (pos L x1) W hW (by omega) h1 h2 h4)
              have HP := Lib.hid (fun W (hW : Cch W p s R L) => peek_yes p s R L x1 W hW (by omega) hh)
              obtain ⟨at_, ct, ht⟩ := HS.out.c2.own.of_any
              have HT := Lib.hid ht
              have i0 : (0 : Int) ≤ (pos L x1 : Int) := by omega
              have i1 : (pos L x1 : Int) < (L.length : Int) := by omega
              have HV := Lib.hid (fun W (hW : Rch W q t R L) => show W.cell? ⟨q, 1, none⟩ = some (.slice at_ L.length ct) ∧ ∃ g, at_ = some ⟨g, 0, none⟩ ∧ W.cell? ⟨g, pos L x1 * 2 + 1, none⟩ = some (.int .i64 (val L x1)) by
                have b1 := hW.blk.cell 1
                have b2 := hW.own
                rw [ht] at b1 b2
                obtain ⟨g, e1, _, _, e2⟩ := rown_at b2 h1
                rw [h3] at e2
                exact ⟨by simpa using b1, g, e1, e2⟩)
              generalize pos L x1 = r at *
              generalize val L x1 = vv at *
              clear hh c0 h1 h2 h3 h4 ht
              go_wp2_with fail
              refine (HP.out _ H0.out.c1).mono ?_
              rintro e wz ⟨rfl, hb⟩
              have ST := Lib.hid (H0.out.fresh hb)
              have X3 := Lib.hid (X0.out.fresh hb)
              clear hb
              obtain ⟨bx, y0, y1, y2⟩ := X3.out
              go_wp2_with fail
              refine (HF.out _ ST.out.c2).mono ?_
              rintro e w4 ⟨rfl, rfl⟩
              obtain ⟨d1, g, rfl, d2⟩ := HV.out _ ST.out.c2
              clear y0 y1 y2 bx
              go_wp2_with fail
              clear d1 d2 i0 i1
              go_meet
              exact ⟨_, _, _, ST.out⟩
          · by_cases c2 : x0 = 2
            · subst c2
              clear c0 c1
              obtain ⟨_, _, hd1, hd2, _, _⟩ := rmd_bd x1 (show (1 : Int) ≤ 5 by omega)
              have HBY := Lib.hid (fun W => by_any 2 x1 x2 W)
              generalize hdd : rmd x1 5 + 1 = d at *
              have hdl : 1 ≤ d := by omega
              have hdu : d ≤ 5 := by omega
              generalize rmd x2 d = left at *
              clear hdd hd1 hd2
              go_wp2_with fail
              refine (HBY.out _).mono ?_
              rintro e w3 ⟨rfl, hb⟩
              have H3 := Lib.hid (H0.out.fresh hb)
              clear hb HBY
              go_wp2_with fail
              obtain ⟨wa, hwa⟩ : ∃ W0, W0 = (w3.alloc (.cells #[.int .i64 d] 3)).alloc (.cells #[.int .i64 left] 3) := ⟨_, rfl⟩
              rw [← hwa]
              have na : wa.cell? ⟨w3.heap.size, 0, none⟩ = some (.int .i64 d) := by rw [hwa]; simp
              have nb : wa.cell? ⟨w3.heap.size + 1, 0, none⟩ = some (.int .i64 left) := by rw [hwa]; simp [go_sem]
              have nl : w3.heap.size + 1 < wa.heap.size := by rw [hwa]; simp
              have hba : Below w3.heap.size w3 wa := by rw [hwa]; go_grown
              have HA3 := Lib.hid (H3.out.fresh hba)
              have LT := Lib.hid (show (∀ b, O p s b → b < w3.heap.size) ∧ ∀ b, O q t b → b < w3.heap.size from ⟨fun b hb => H3.out.c1.lt hb, fun b hb => H3.out.c2.lt hb⟩)
              have HSU := Lib.hid (show SuchK 31 (.pointer (some ⟨w3.heap.size, 0, none⟩)) (.pointer (some ⟨w3.heap.size + 1, 0, none⟩)) (fun b => s.ownBlock = some b) wa.drew (fun x => rmd x d == left) from fun k W hW => by
                have c1 := (hW.cell (g := w3.heap.size) (o := 0) (show w3.heap.size < wa.heap.size by omega) (fun e => by have := LT.out.1 _ (.inr e); omega)).trans na
                have c2 := (hW.cell (g := w3.heap.size + 1) (o := 0) (show w3.heap.size + 1 < wa.heap.size by omega) (fun e => by have := LT.out.1 _ (.inr e); omega)).trans nb
                exact rem31 _ _ d left k W hdl hdu c1 c2)
              have HSL := Lib.hid (stay_len (fun x => rmd x d == left) L)
              clear hwa hba H3
              go_region_with (first
                | (go_at_call 30; refine (drop_any 31 _ _ p s R (fun x => rmd x d == left) L _ (by exact (HA3.out.fresh ((Below.refl _ _).drew)).c1) (by omega) (fun k W => calls31 _ _ k W) (by exact HSU.out)).mono ?_; rintro e w4 ⟨s', rfl, hc, hkk, hf⟩; have H4 := Lib.hid ((HA3.out.fresh ((Below.refl _ _).drew)).one hc hkk hf); have n1 := (hkk.cell (g := w3.heap.size) (o := 0) (show w3.heap.size < wa.heap.size by omega) (fun e => by have := LT.out.1 _ e; omega)).trans na; have n2 := (hkk.cell (g := w3.heap.size + 1) (o := 0) (show w3.heap.size + 1 < wa.heap.size by omega) (fun e => by have := LT.out.1 _ e; omega)).trans nb; clear hc hkk hf)
                | (go_at_call 32; refine (rdrop_any q t R L d left _ (by exact H4.out.c2) (by omega) hdl hdu).mono ?_; rintro e wz ⟨tz, rfl, hc, hkk, hf⟩; have ST := Lib.hid (H4.out.two_ hc hkk hf (by have := HSL.out; omega)); clear hc hkk hf))
              all_goals
                clear na nb nl
                go_wp2_with fail
                go_meet
                exact ⟨_, _, _, ST.out⟩
            · have d0 : (x0 == 0) = false := by simpa using c0
              have d1 : (x0 == 1) = false := by simpa using c1
              have d2 : (x0 == 2) = false := by simpa using c2
              clear c0 c1 c2
              go_wp2_with fail
              refine (put_any p s R L x1 x2 _ H0.out.c1 hll hr1 hr2).mono ?_
              rintro e w3 ⟨s', rfl, hc, hkk, hf⟩
              have H3 := Lib.hid (H0.out.one hc hkk hf)
              have X3 := Lib.hid (X0.out.kept hkk NO.out.1)
              clear hc hkk hf
              obtain ⟨bx, y0, y1, y2⟩ := X3.out
              go_wp2_with fail
              refine (rput_any q t R L x1 x2 _ H3.out.c2 hll hr1 hr2).mono ?_
              rintro e wz ⟨tz, rfl, hc, hkk, hf⟩
              have ST := Lib.hid (H3.out.two_ hc hkk hf (putL_len hll _ _ hr1))
              clear hc hkk hf H3 X3 y0 y1 y2 bx
              generalize goneK (R : Int) L x1 = vv
              generalize goneB (R : Int) L x1 = hh
              go_wp2_with fail
              go_meet
              exact ⟨_, _, _, ST.out⟩
      case rest =>
        obtain ⟨sz, uz, Lz, hST⟩ := hcut
        have SZ := Lib.hid hST
        have hlz := hST.ln
        obtain ⟨az, cz, hz⟩ := hST.c2.own.of_any
        have e1 : wc.cell? ⟨q, 1, none⟩ = some (.slice az Lz.length cz) := by
          have := hST.c2.blk.cell 1
          rw [hz] at this
          simpa using this
        clear hST hz
        go_wp2_with fail
        go_region_with (first
          | (go_at_call 23; refine (len_any p sz R Lz _ (by exact (SZ.out.fresh ((Below.refl _ _).drew)).c1)).mono ?_; rintro e w5 ⟨rfl, rfl⟩)
          | (go_at_call 19; refine (keys_any p sz R Lz _ (by exact (SZ.out.fresh ((Below.refl _ _).drew)).c1) (by omega)).mono ?_; rintro e w6 ⟨kv, rfl, ho, _, hb⟩; obtain ⟨a6, c6, rfl, hn6, r6⟩ := row_of_own ho; have R6 := Lib.hid r6; have S6 := Lib.hid ((SZ.out.fresh ((Below.refl _ _).drew)).fresh hb); clear ho hb r6 hn6; rw [keys_len])
          | (go_at_call 34; refine (rkeys_any q uz R Lz _ (by exact S6.out.c2) (by omega)).mono ?_; rintro e w7 ⟨kv, rfl, ho, _, hb⟩; obtain ⟨a7, c7, rfl, hn7, r7⟩ := row_of_own ho; have R7 := Lib.hid r7; have R67 := Lib.hid (R6.out.fresh hb); have S7 := Lib.hid (S6.out.fresh hb); clear ho hb r7 hn7; rw [keys_len])
          | (go_at_call 21; refine (ints_n Lz.length a6 a7 c6 c7 (keys Lz) _ (by exact R67.out) (by exact R7.out) (keys_len Lz) (by omega)).mono ?_; rintro e w8 ⟨rfl, hb⟩; have S8 := Lib.hid (S7.out.fresh hb); clear hb))
        all_goals
          go_wp2_with fail
          go_roundw
          case rel => exact ⟨k + 1, sz, uz, Lz, by omega, by go_num, S8.out⟩
          case measure => simp [intOf]; omega
    · have BB := Lib.hid HS.out.bb
      go_wp2_with fail
      refine (awake_any _).mono ?_
      rintro e w3 ⟨rfl, hb⟩
      have B9 := Lib.hid (bl BB.out hb)
      clear hb
      go_wp2
      go_ret
      exact ⟨rfl, B9.out⟩
end Go.Proofs.Ytoecclpfgdfpoaa
