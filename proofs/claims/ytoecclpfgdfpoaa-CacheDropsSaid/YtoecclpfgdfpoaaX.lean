/- The walk of the law CacheDrops: for every input it returns true, and writes to new memory alone. -/
import Derived.Test.YtoecclpfgdfpoaaV
namespace Go.Proofs.Ytoecclpfgdfpoaa
open Go.RowKit

/-- One cache, in memory from B on. -/
structure OneD (B : Nat) (w0 w : World) (p : Nat) (s : Value) (room : Int) (A : List Th) : Prop where
  c1 : Cch w p s room A
  hp : B ≤ p
  hs : ∀ b, s.ownBlock = some b → B ≤ b
  bb : Below B w0 w
theorem OneD.fresh {w0 w w' : World} {p : Nat} {s : Value} {room : Int} {A : List Th} (h : OneD w0.heap.size w0 w p s room A) (hb : Below w.heap.size w w') : OneD w0.heap.size w0 w' p s room A :=
  ⟨h.c1.fresh hb, h.hp, h.hs, bl h.bb hb⟩

/-- The keys that stay. -/
def stayK (f : Int → Bool) (l : List Int) : List Int := l.filter fun x => !f x
theorem keys_stay (f : Int → Bool) (l : List Th) : keys (stay f l) = stayK f (keys l) := by
  unfold keys stay stayK
  rw [List.filter_map]
  rfl
theorem stayK_step (f : Int → Bool) (l : List Int) (y : Nat) (hy : y < l.length) : stayK f (l.take (y + 1)) = if f (l.getD y 0) then stayK f (l.take y) else stayK f (l.take y) ++ [l.getD y 0] := by
  unfold stayK
  rw [List.take_succ_eq_append_getElem hy, List.filter_append]
  simp only [List.getD_eq_getElem?_getD, List.getElem?_eq_getElem hy, Option.getD_some, List.filter_cons, List.filter_nil]
  cases f (l[y]) <;> simp
theorem stayK_len (f : Int → Bool) (l : List Int) : (stayK f l).length ≤ l.length := List.length_filter_le _ _

theorem has_dec (l : List Th) (k : Int) : decide (k ∈ keys l) = has l k := by
  cases h : has l k
  · exact decide_eq_false (fun e => by have := (has_iff l k).2 e; rw [h] at this; cases this)
  · exact decide_eq_true ((has_iff l k).1 h)

/-- What Peek tells: is there a thing? -/
def PeekIs (b : Bool) (w : World) (e : Ending) (w' : World) : Prop := ∃ z, e = .returned (.tuple #[.int .i64 z, .bool b]) ∧ Below w.heap.size w w'
theorem peek_is (p : Nat) (s : Value) (room : Int) (l : List Th) (k : Int) (w : World) (h : Cch w p s room l) (hl : l.length ≤ 1000000) :
    Calls Try.prog 15 #[.pointer (some ⟨p, 0, none⟩), .int .i64 k] w (PeekIs (has l k) w) := by
  cases hh : has l k
  · exact (peek_no p s room l k w h hl hh).mono fun _ _ h => ⟨_, h.1, h.2⟩
  · exact (peek_yes p s room l k w h hl hh).mono fun _ _ h => ⟨_, h.1, h.2⟩

set_option maxRecDepth 100000 in
set_option maxHeartbeats 8000000 in
theorem wDrops_run (R : Nat) (a : Option Addr) (cap : Nat) (l : List Ac) (x0 xk xv : Int) (w : World) (ha : RowA w a l) (hR1 : 1 ≤ R) (hR : R ≤ 16) (hl : l.length ≤ 60) :
    Calls Try.prog 8 #[.int .i64 (R : Int), .slice a l.length cap, .agg #[.int .i64 x0, .int .i64 xk, .int .i64 xv]] w fun e w' => e = .returned (.bool true) ∧ Below w.heap.size w w' := by
  obtain ⟨i0, hi0, hz0, hz1, hz2⟩ := info_parts info3
  have HA := Lib.hid ha
  have HL := Lib.hid (fun k hk => puts_snoc (R : Int) l k hk)
  have HB1 := Lib.hid (fun k => puts_len (room := (R : Int)) (by omega) (l.take k))
  have hr1 : (1 : Int) ≤ (R : Int) := by omega
  have hr2 : (R : Int) ≤ 16 := by omega
  have hd := rmd_bd xk (show (1 : Int) ≤ 5 by omega)
  obtain ⟨_, _, hd1, hd2, _, _⟩ := hd
  have HBY := Lib.hid (fun W => by_any x0 xk xv W)
  generalize hdd : rmd xk 5 + 1 = d at *
  have hdl : 1 ≤ d := by omega
  have hdu : d ≤ 5 := by omega
  generalize rmd xv d = left at *
  clear ha hdd hd1 hd2
  go_enter Try.func8, Try.ntmps8
  go_wp2_with fail
  refine (new_yes R hr1 hr2 _).mono ?_
  rintro e w1 ⟨p, rfl, hc1, hp1, hb1⟩
  have x1c : ∀ o, o < 3 → w1.cell? ⟨w.heap.size, o, none⟩ = #[Value.int .i64 x0, .int .i64 xk, .int .i64 xv][o]? := fun o ho => by
    rw [hb1.cell (p := ⟨w.heap.size, o, none⟩) (by simp)]
    exact (Blk.new w 35 _).cell o
  have X1 := Lib.hid x1c
  have ST := Lib.hid (show OneD w.heap.size w w1 p (.slice none 0 0) R (puts (R : Int) (l.take 0)) from ⟨hc1, by simp at hp1; omega, fun b h => by simp [Value.ownBlock] at h, bl (by go_grown) hb1⟩)
  have hpp : w.heap.size < p := by simp at hp1; omega
  have HX1 := Lib.hid (show w.heap.size < w1.heap.size by have := hb1.size; simp at this; omega)
  clear hc1 hp1 hb1 x1c
  go_wp2_with fail
  go_loopw [9] (fun i wr => ∃ (k : Nat) (s : Value), k ≤ l.length ∧ i = .int .i64 k ∧ OneD w.heap.size w wr p s R (puts (R : Int) (l.take k)) ∧ (∀ b, s.ownBlock = some b → w.heap.size < b) ∧ w.heap.size < wr.heap.size ∧ ∀ o, o < 3 → wr.cell? ⟨w.heap.size, o, none⟩ = #[Value.int .i64 x0, .int .i64 xk, .int .i64 xv][o]?)
    (fun i _ => l.length - (intOf i).toNat)
  case atStart => exact ⟨0, _, by omega, rfl, ST.out, fun b h => by simp [Value.ownBlock] at h, HX1.out, X1.out⟩
  case round =>
    obtain ⟨k, s, hk, rfl, hst, hsg, hwg, hxc⟩ := hrel
    have HS := Lib.hid hst
    have HSG := Lib.hid hsg
    have HXC := Lib.hid hxc
    clear hst ST hsg hxc X1 HX1
    by_cases hkl : k < l.length
    · obtain ⟨b, off, rfl, hbw, q0, q1, q2⟩ := HA.out.at_ HS.out.bb hkl
      have k0 : (0 : Int) ≤ (k : Int) := by omega
      have k1 : (k : Int) < (l.length : Int) := by omega
      have HLk := Lib.hid (HL.out k hkl)
      generalize (l.getD k (0, 0, 0)).2.1 = key at *
      generalize (l.getD k (0, 0, 0)).2.2 = v at *
      clear q0
      go_wp2_with fail
      go_still_tail 11, (by kernel_rfl)
      change wpList _ _ _ _ _ wr.drew
      go_wp2_with fail
      refine (put_any p s R _ key v _ (by exact (HS.out.c1.fresh ((Below.refl _ _).drew))) (HB1.out k) hr1 hr2).mono ?_
      rintro e w6 ⟨s', rfl, hc, hkk, hf⟩
      rw [← HLk.out] at hc
      have S6 := Lib.hid (show OneD w.heap.size w w6 p s' R (puts (R : Int) (l.take (k + 1))) from ⟨hc, HS.out.hp, fresh_from hf HS.out.hs HS.out.bb.size, HS.out.bb.drew.trans (cache_below hkk HS.out.hp HS.out.hs HS.out.bb.size)⟩)
      have G6 := Lib.hid (show (∀ b, s'.ownBlock = some b → w.heap.size < b) ∧ w.heap.size < w6.heap.size ∧ ∀ o, o < 3 → w6.cell? ⟨w.heap.size, o, none⟩ = #[Value.int .i64 x0, .int .i64 xk, .int .i64 xv][o]? from
        ⟨fun b hb => (hf b hb).elim (HSG.out b) (fun e => Nat.lt_of_lt_of_le hwg e), Nat.lt_of_lt_of_le hwg hkk.size, fun o ho => (hkk.cell (g := w.heap.size) (o := o) hwg (fun h => by
          rcases h with e | e
          · omega
          · have := HSG.out _ e; omega)).trans (HXC.out o ho)⟩)
      clear hc hkk hf
      go_wp2_with fail
      go_roundw
      case rel => exact ⟨k + 1, s', by omega, by go_num, S6.out, G6.out.1, G6.out.2.1, G6.out.2.2⟩
      case measure => simp [intOf]; omega
    · obtain rfl : k = l.length := by omega
      have hA := HB1.out l.length
      generalize puts (R : Int) (l.take l.length) = A at *
      have hA' : A.length ≤ 16 := by omega
      have z0 : wr.cell? ⟨w.heap.size, 0, none⟩ = some (.int .i64 x0) := HXC.out 0 (by omega)
      have z1 : wr.cell? ⟨w.heap.size, 1, none⟩ = some (.int .i64 xk) := HXC.out 1 (by omega)
      have z2 : wr.cell? ⟨w.heap.size, 2, none⟩ = some (.int .i64 xv) := HXC.out 2 (by omega)
      clear hkl
      go_wp2_with fail
      refine (keys_any p s R A _ HS.out.c1 (by omega)).mono ?_
      rintro e w7 ⟨ks, rfl, ho, hbo, hb7⟩
      obtain ⟨ak, ck, rfl, _hn, hrk⟩ := row_of_own ho
      have RK := Lib.hid hrk
      have KO := Lib.hid ho
      have KB := Lib.hid (show ∀ b, (Value.slice ak (keys A).length ck).ownBlock = some b → w.heap.size ≤ b ∧ ¬ O p s b from fun b hb => by
        have := hbo b hb
        exact ⟨Nat.le_trans HS.out.bb.size this, fun h => by have := HS.out.c1.lt h; omega⟩)
      have S7 := Lib.hid (HS.out.fresh hb7)
      replace z0 := (hb7.cell (p := ⟨w.heap.size, 0, none⟩) hwg).trans z0
      replace z1 := (hb7.cell (p := ⟨w.heap.size, 1, none⟩) hwg).trans z1
      replace z2 := (hb7.cell (p := ⟨w.heap.size, 2, none⟩) hwg).trans z2
      clear ho hbo hb7 hrk _hn HS
      rw [keys_len]
      go_wp2_with fail
      refine (HBY.out _).mono ?_
      rintro e w8 ⟨rfl, hb8⟩
      have RK8 := Lib.hid (RK.out.fresh hb8)
      have S8 := Lib.hid (S7.out.fresh hb8)
      replace KO := Lib.hid (KO.out.kept (Kept.of_below hb8) (fun b hb => by have := KO.out.lt hb; omega))
      have SLT := Lib.hid (fun b (hb : O p s b) => S8.out.c1.lt hb)
      clear hb8 RK S7 z0 z1 z2
      go_wp2_with fail
      obtain ⟨wa, hwa⟩ : ∃ W0, W0 = (w8.alloc (.cells #[.int .i64 d] 3)).alloc (.cells #[.int .i64 left] 3) := ⟨_, rfl⟩
      rw [← hwa]
      have na := Lib.hid (show wa.cell? ⟨w8.heap.size, 0, none⟩ = some (.int .i64 d) by rw [hwa]; simp)
      have nb := Lib.hid (show wa.cell? ⟨w8.heap.size + 1, 0, none⟩ = some (.int .i64 left) by rw [hwa]; simp [go_sem])
      have nl := Lib.hid (show w8.heap.size + 2 = wa.heap.size by rw [hwa]; simp)
      have hba : Below w8.heap.size w8 wa := by rw [hwa]; go_grown
      have SA := Lib.hid (S8.out.fresh hba)
      have RKA := Lib.hid (RK8.out.fresh hba)
      replace KO := Lib.hid (KO.out.kept (Kept.of_below hba) (fun b hb => by have := KO.out.lt hb; omega))
      clear hwa hba RK8 S8
      have HST := Lib.hid (fun y hy => stayK_step (fun x => rmd x d == left) (keys A) y hy)
      have HSL := Lib.hid (fun y => stayK_len (fun x => rmd x d == left) ((keys A).take y))
      go_loopw [13, 14] (fun o i wq => ∃ y : Nat, y ≤ A.length ∧ i = .int .i64 y ∧ Own wq 3 1 o (stayK (fun x => rmd x d == left) ((keys A).take y)).length (ints (stayK (fun x => rmd x d == left) ((keys A).take y))) ∧ (∀ b, o.ownBlock = some b → wa.heap.size ≤ b) ∧ Below wa.heap.size wa wq)
        (fun _ i _ => A.length - (intOf i).toNat)
      case atStart => exact ⟨0, by omega, rfl, Own.nil _ _ _, fun b h => by simp [Value.ownBlock] at h, Below.refl _ _⟩
      case round =>
        obtain ⟨y, hy, rfl, hor, hge, hbq⟩ := hrel
        have OO := Lib.hid hor
        have GE := Lib.hid hge
        have BQ := Lib.hid hbq
        clear hor hge hbq
        by_cases hya : y < A.length
        · obtain ⟨b8, o8, rfl, hb8, q8⟩ := RKA.out.at_ (show y < (keys A).length by rw [keys_len]; exact hya)
          replace q8 := (BQ.out.cell (p := ⟨b8, o8 + y, none⟩) hb8).trans q8
          have c1 : wr.cell? ⟨w8.heap.size, 0, none⟩ = some (.int .i64 d) := (BQ.out.cell (p := ⟨w8.heap.size, 0, none⟩) (by show w8.heap.size < _; have := nl.out; omega)).trans na.out
          have c2 : wr.cell? ⟨w8.heap.size + 1, 0, none⟩ = some (.int .i64 left) := (BQ.out.cell (p := ⟨w8.heap.size + 1, 0, none⟩) (by show w8.heap.size + 1 < _; have := nl.out; omega)).trans nb.out
          have y0 : (0 : Int) ≤ (y : Int) := by omega
          have y1 : (y : Int) < (A.length : Int) := by omega
          have HS := Lib.hid (HST.out y (by rw [keys_len]; exact hya))
          have HLy := Lib.hid (show (stayK (fun x => rmd x d == left) ((keys A).take y)).length ≤ 16 by have := HSL.out y; rw [List.length_take] at this; omega)
          generalize (keys A).getD y 0 = z at *
          obtain ⟨t1, t2, t3, t4, t5, t6⟩ := rmd_bd z hdl
          have HZ := Lib.hid (rmd_mod z hdl)
          have hne : ¬ d = 0 := by omega
          have hne2 : ¬ d = -1 := by omega
          generalize hq : z.tmod d = q at *
          have hwq : IntKind.i64.wrap (q + d) = q + d := IntWalk.i64_in _ (by omega)
          have E1 := Lib.hid (show (q + d) % d = q % d by rw [Int.add_emod_right])
          obtain ⟨ao, co, rfl⟩ := OO.out.of_any
          cases hf : (rmd z d == left)
          · have g1 : (q % d != left) = true := by rw [HZ.out] at hf; simpa using hf
            have g2 : ((q + d) % d != left) = true := by rw [E1.out]; exact g1
            have HS2 := Lib.hid (show stayK (fun x => rmd x d == left) ((keys A).take (y + 1)) = stayK (fun x => rmd x d == left) ((keys A).take y) ++ [z] by rw [HS.out, hf]; rfl)
            clear hf t3 t4
            go_wp2_with fail
            go_quiet (fail)
            clear hq hwq g1 g2 t1 t2 t5 t6
            have OD := Lib.hid (OO.out.drewN nq)
            have BD := Lib.hid (below_drewN BQ.out nq)
            clear c1 c2
            replace q8 : (wr.drewN nq).cell? ⟨b8, o8 + y, none⟩ = some (.int .i64 z) := q8
            go_wp2_with (at_builtin; refine wpList_append_fresh _ rfl (.tmp 86) (.tmp 91) 44 rfl 3 i0 (.int .i64 0) 1 8 Try.underlying44 hi0 hz0 hz1 hz2 rfl (by decide) _ _ _ rfl (OD.out.alloc _) (some ⟨(wr.drewN nq).heap.size, 0, none⟩) 1 1 [.int .i64 z] rfl rfl (fun _ => ⟨_, rfl, cell_one_new _ _ _⟩) (by simp [Value.oneCell']) (by have := HLy.out; simp only [maxLen]; omega) (by have := HLy.out; omega) ?_; intro v' wz ho hg hf2)
            have HB2 := Lib.hid ((BD.out.alloc BD.out.size (.cells #[.int .i64 z] 3)).trans (((Kept.refl (fun b => (Value.slice ao (stayK (fun x => rmd x d == left) ((keys A).take y)).length co).ownBlock = some b) _).grown hg (fun k e => .inl e)).below (fun b _ hb => GE.out b hb) (by have := BD.out.size; simp only [World.size_alloc]; omega)))
            have GE2 := Lib.hid (show ∀ b, v'.ownBlock = some b → wa.heap.size ≤ b from fun b hb => (hf2 b hb).elim (GE.out b) (fun e => by have := BD.out.size; simp only [World.size_alloc] at e; omega))
            have HO2 := Lib.hid (show Own wz 3 1 v' (stayK (fun x => rmd x d == left) ((keys A).take (y + 1))).length (ints (stayK (fun x => rmd x d == left) ((keys A).take (y + 1)))) by rw [HS2.out, List.length_append]; simpa [ints] using ho)
            clear ho hg hf2
            go_wp2_with fail
            go_roundw
            case rel => exact ⟨y + 1, by omega, by go_num, HO2.out, GE2.out, HB2.out⟩
            case measure => simp [intOf]; omega
          · have g1 : (q % d != left) = false := by rw [HZ.out] at hf; simpa using hf
            have g2 : ((q + d) % d != left) = false := by rw [E1.out]; exact g1
            have HS2 := Lib.hid (show stayK (fun x => rmd x d == left) ((keys A).take (y + 1)) = stayK (fun x => rmd x d == left) ((keys A).take y) by rw [HS.out, hf]; rfl)
            clear hf t3 t4
            go_wp2_with fail
            go_quiet (fail)
            clear hq hwq g1 g2 t1 t2 t5 t6
            go_wp2_with fail
            go_roundw
            case rel => exact ⟨y + 1, by omega, by go_num, by rw [HS2.out]; exact OO.out.drewN _, GE.out, below_drewN BQ.out _⟩
            case measure => simp [intOf]; omega
        · obtain rfl : y = A.length := by omega
          have TK : (keys A).take A.length = keys A := List.take_of_length_le (by rw [keys_len]; exact Nat.le_refl _)
          rw [TK] at OO
          have HKS := Lib.hid (keys_stay (fun x => rmd x d == left) A)
          have HNN := Lib.hid (show (stay (fun x => rmd x d == left) A).length = (stayK (fun x => rmd x d == left) (keys A)).length by rw [← HKS.out, keys_len])
          have HN16 := Lib.hid (show (stayK (fun x => rmd x d == left) (keys A)).length ≤ 16 by rw [← HNN.out]; have := stay_len (fun x => rmd x d == left) A; omega)
          obtain ⟨as_, cs_, rfl⟩ := OO.out.of_any
          have SW := Lib.hid (SA.out.fresh BQ.out)
          have KW := Lib.hid (KO.out.kept (Kept.of_below BQ.out) (fun b hb => by have := KO.out.lt hb; omega))
          have HSU := Lib.hid (show SuchK 35 (.pointer (some ⟨w8.heap.size, 0, none⟩)) (.pointer (some ⟨w8.heap.size + 1, 0, none⟩)) (fun b => s.ownBlock = some b) wr (fun x => rmd x d == left) from fun k W hW => by
            have l1 := nl.out
            have l2 := BQ.out.size
            have c1 := (hW.cell (g := w8.heap.size) (o := 0) (by omega) (fun e => by have := SLT.out _ (.inr e); omega)).trans ((BQ.out.cell (p := ⟨w8.heap.size, 0, none⟩) (by show w8.heap.size < _; omega)).trans na.out)
            have c2 := (hW.cell (g := w8.heap.size + 1) (o := 0) (by omega) (fun e => by have := SLT.out _ (.inr e); omega)).trans ((BQ.out.cell (p := ⟨w8.heap.size + 1, 0, none⟩) (by show w8.heap.size + 1 < _; omega)).trans nb.out)
            exact rem35 _ _ d left k W hdl hdu c1 c2)
          have HLW := Lib.hid (show ∀ b, O p s b → b < wa.heap.size from fun b hb => by have := SLT.out b hb; have := nl.out; omega)
          clear TK SA KO HST HSL hya
          go_wp2_with fail
          refine (drop_any 35 _ _ p s R (fun x => rmd x d == left) A _ SW.out.c1 (by omega) (fun k W => calls35 _ _ k W) HSU.out).mono ?_
          rintro e w10 ⟨s', rfl, hc, hkk, hf⟩
          have SC := Lib.hid (show OneD w.heap.size w w10 p s' R (stay (fun x => rmd x d == left) A) from ⟨hc, SW.out.hp, fresh_from hf SW.out.hs SW.out.bb.size, SW.out.bb.trans (cache_below hkk SW.out.hp SW.out.hs SW.out.bb.size)⟩)
          have SO := Lib.hid (OO.out.kept hkk (fun b hb ho => by have := GE.out b hb; have := HLW.out b ho; omega))
          have KX := Lib.hid (KW.out.kept hkk (fun b hb ho => (KB.out b hb).2 ho))
          clear hc hkk hf SW OO KW HSU
          rw [HNN.out]
          have hwn : IntKind.i64.wrap ((A.length : Int) - ((stayK (fun x => rmd x d == left) (keys A)).length : Int)) = (A.length : Int) - ((stayK (fun x => rmd x d == left) (keys A)).length : Int) := by
            have := HN16.out
            rw [IntWalk.i64_in _ (by omega)]
          go_wp2_with fail
          refine (keys_any p s' R _ _ SC.out.c1 (by have := HN16.out; rw [HNN.out]; omega)).mono ?_
          rintro e w11 ⟨kv, rfl, ho, hbo, hb⟩
          rw [HKS.out] at ho
          obtain ⟨a11, c11, rfl, hn11, r11⟩ := row_of_own ho
          have SC11 := Lib.hid (SC.out.fresh hb)
          have R11 := Lib.hid r11
          have SO11 := Lib.hid (SO.out.kept (Kept.of_below hb) (fun b hb => by have := SO.out.lt hb; omega))
          have KX11 := Lib.hid (KX.out.kept (Kept.of_below hb) (fun b hb => by have := KX.out.lt hb; omega))
          clear ho hbo hb r11 SC SO KX hn11
          obtain ⟨as2, cs2, e9, _, hrs⟩ := row_of_own SO11.out
          have RS := Lib.hid (show RowI w11 as_ (stayK (fun x => rmd x d == left) (keys A)) by simp only [Value.slice.injEq] at e9; rw [e9.1]; exact hrs)
          obtain ⟨ak2, ck2, e8, _, hrk⟩ := row_of_own KX11.out
          have RK := Lib.hid (show RowI w11 ak (keys A) by simp only [Value.slice.injEq] at e8; rw [e8.1]; exact hrk)
          clear e9 hrs e8 hrk
          go_wp2_with fail
          refine (ints_n _ a11 as_ c11 cs_ (stayK (fun x => rmd x d == left) (keys A)) _ R11.out RS.out rfl (by have := HN16.out; omega)).mono ?_
          rintro e w12 ⟨rfl, hb⟩
          have SC12 := Lib.hid (SC11.out.fresh hb)
          have RS12 := Lib.hid (RS.out.fresh hb)
          have RK12 := Lib.hid (RK.out.fresh hb)
          clear hb SC11 RS RK R11 SO11 KX11
          go_wp2_with fail
          refine (drop_nil p _).mono ?_
          rintro e w13 ⟨rfl, hb⟩
          have SC13 := Lib.hid (SC12.out.fresh hb)
          have RS13 := Lib.hid (RS12.out.fresh hb)
          have RK13 := Lib.hid (RK12.out.fresh hb)
          clear hb SC12 RS12 RK12
          go_wp2_with fail
          refine (len_any p s' R _ _ SC13.out.c1).mono ?_
          rintro e w14 ⟨rfl, rfl⟩
          rw [HNN.out]
          go_wp2_with fail
          obtain ⟨wo, hwo⟩ : ∃ wo : World, wo = w13 := ⟨_, rfl⟩
          subst hwo
          go_loopw [16] (fun i wq => ∃ x : Nat, x ≤ A.length ∧ i = .int .i64 x ∧ Below wo.heap.size wo wq)
            (fun i _ => A.length - (intOf i).toNat)
          case atStart => exact ⟨0, by omega, rfl, Below.refl _ _⟩
          case round =>
            obtain ⟨x, hx, rfl, hbq⟩ := hrel
            have BX := Lib.hid hbq
            clear hbq
            by_cases hxa : x < A.length
            · obtain ⟨b8, o8, rfl, hb8, q8⟩ := RK13.out.at_ (show x < (keys A).length by rw [keys_len]; exact hxa)
              replace q8 := (BX.out.cell (p := ⟨b8, o8 + x, none⟩) hb8).trans q8
              have m0 : (0 : Int) ≤ (x : Int) := by omega
              have m1 : (x : Int) < (A.length : Int) := by omega
              generalize (keys A).getD x 0 = key' at *
              have P1 := Lib.hid (peek_is p s' R _ key' wr (SC13.out.fresh BX.out).c1 (by have := HN16.out; rw [HNN.out]; omega))
              have HD := Lib.hid (show decide (key' ∈ stayK (fun x => rmd x d == left) (keys A)) = has (stay (fun x => rmd x d == left) A) key' by rw [← HKS.out]; exact has_dec _ _)
              have RSX := Lib.hid (RS13.out.fresh BX.out)
              have hb8' : b8 < wr.heap.size := Nat.lt_of_lt_of_le hb8 BX.out.size
              generalize has (stay (fun x => rmd x d == left) A) key' = hh at *
              go_wp2_with fail
              refine P1.out.mono ?_
              rintro e w15 ⟨zz, rfl, hb⟩
              have q9 := (hb.cell (p := ⟨b8, o8 + x, none⟩) hb8').trans q8
              have B8 := Lib.hid (bl BX.out hb)
              have RS15 := Lib.hid (RSX.out.fresh hb)
              clear hb q8
              go_wp2_with fail
              refine (in_any _ as_ cs_ (stayK (fun x => rmd x d == left) (keys A)) key' _ RS15.out rfl (by have := HN16.out; omega)).mono ?_
              rintro e w16 ⟨rfl, rfl⟩
              rw [HD.out]
              go_wp2_with fail
              go_roundw
              case rel => exact ⟨x + 1, by omega, by go_num, B8.out⟩
              case measure => simp [intOf]; omega
            · have B9 := Lib.hid (bl SC13.out.bb BX.out)
              go_wp2_with fail
              refine (awake_any _).mono ?_
              rintro e w17 ⟨rfl, hb⟩
              have B17 := Lib.hid (bl B9.out hb)
              clear hb
              go_wp2
              go_ret
              exact ⟨rfl, B17.out⟩
end Go.Proofs.Ytoecclpfgdfpoaa
