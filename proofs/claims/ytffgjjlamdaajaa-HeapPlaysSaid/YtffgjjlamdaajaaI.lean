/- Several heaps side by side, and the calls on one of them. -/
import Derived.Test.YtffgjjlamdaajaaH
namespace Go.Proofs.Ytffgjjlamdaajaa
open Go.RowKit

/-- A heap: its block, its row, its map, its things. -/
abbrev HD := Nat × Value × Nat × List Th
abbrev OD (d : HD) : Nat → Prop := O d.1 d.2.1 d.2.2.1
abbrev HpD (w : World) (d : HD) : Prop := Hp w d.1 d.2.1 d.2.2.1 d.2.2.2

/-- Heaps in new memory, each in its own. -/
structure Sys (w0 w : World) (L : List HD) : Prop where
  below : Below w0.heap.size w0 w
  hp : ∀ d ∈ L, HpD w d ∧ ∀ b, OD d b → w0.heap.size ≤ b
  ap : L.Pairwise (fun d e => ∀ b, OD d b → ¬ OD e b)

section
variable {w0 w w' : World} {L : List HD} {d e : HD}
theorem Sys.nil (w0 : World) : Sys w0 w0 [] := ⟨Below.refl _ _, by simp, List.Pairwise.nil⟩
theorem Sys.head (h : Sys w0 w (d :: L)) : HpD w d := (h.hp d List.mem_cons_self).1
theorem Sys.mono (h : Sys w0 w L) (hb : Below w.heap.size w w') : Sys w0 w' L := ⟨bl h.below hb, fun d hd => ⟨(h.hp d hd).1.fresh hb, (h.hp d hd).2⟩, h.ap⟩
theorem Sys.add (h : Sys w0 w L) (hb : Below w.heap.size w w') (hd : HpD w' d) (hn : ∀ b, OD d b → w.heap.size ≤ b) : Sys w0 w' (d :: L) := by
  refine ⟨bl h.below hb, fun x hx => ?_, List.pairwise_cons.2 ⟨fun x hx b h1 h2 => ?_, h.ap⟩⟩
  · rcases List.mem_cons.1 hx with rfl | hx
    · exact ⟨hd, fun b hb' => Nat.le_trans h.below.size (hn b hb')⟩
    · exact (h.mono hb).hp x hx
  · have a := hn b h1
    have b := (h.hp x hx).1.lt h2
    omega
theorem Sys.call {p m : Nat} {s s' : Value} {S S' : List Th} (h : Sys w0 w ((p, s, m, S) :: L)) (hk : Kept (O p s m) w w') (hp : Hp w' p s' m S') (hf : Fresh w s s') : Sys w0 w' ((p, s', m, S') :: L) := by
  obtain ⟨a1, a2⟩ := List.pairwise_cons.1 h.ap
  have hn := (h.hp _ List.mem_cons_self).2
  have hO : ∀ b, O p s' m b → O p s m b ∨ w.heap.size ≤ b := by
    rintro b (e | e | e)
    · exact .inl (.inl e)
    · exact .inl (.inr (.inl e))
    · exact (hf b e).imp (fun e => .inr (.inr e)) id
  refine ⟨h.below.trans (hk.below (fun b _ e => hn b e) h.below.size), fun x hx => ?_, List.pairwise_cons.2 ⟨fun x hx b h1 h2 => ?_, a2⟩⟩
  · rcases List.mem_cons.1 hx with rfl | hx
    · exact ⟨hp, fun b hb => (hO b hb).elim (hn b) (fun e => Nat.le_trans h.below.size e)⟩
    · have := h.hp x (List.mem_cons_of_mem _ hx)
      exact ⟨this.1.kept hk (fun b h1 h2 => a1 x hx b h2 h1), this.2⟩
  · rcases hO b h1 with q | q
    · exact a1 x hx b q h2
    · have := (h.hp x (List.mem_cons_of_mem _ hx)).1.lt h2
      omega
theorem Sys.swap (h : Sys w0 w (d :: e :: L)) : Sys w0 w (e :: d :: L) := by
  refine ⟨h.below, fun x hx => h.hp x ?_, ?_⟩
  · simp only [List.mem_cons] at hx ⊢
    rcases hx with e | e | e
    · exact .inr (.inl e)
    · exact .inl e
    · exact .inr (.inr e)
  · obtain ⟨a1, a2⟩ := List.pairwise_cons.1 h.ap
    obtain ⟨b1, b2⟩ := List.pairwise_cons.1 a2
    refine List.pairwise_cons.2 ⟨fun x hx b h1 h2 => ?_, List.pairwise_cons.2 ⟨fun x hx => a1 x (List.mem_cons_of_mem _ hx), b2⟩⟩
    rcases List.mem_cons.1 hx with rfl | hx
    · exact a1 e List.mem_cons_self b h2 h1
    · exact b1 x hx b h1 h2
theorem Sys.tail (h : Sys w0 w (d :: L)) : Sys w0 w L := ⟨h.below, fun x hx => h.hp x (List.mem_cons_of_mem _ hx), (List.pairwise_cons.1 h.ap).2⟩
theorem Sys.rot {c : HD} (h : Sys w0 w (d :: e :: c :: L)) : Sys w0 w (c :: d :: e :: L) := by
  refine ⟨h.below, fun x hx => h.hp x ?_, ?_⟩
  · simp only [List.mem_cons] at hx ⊢
    rcases hx with e | e | e | e
    · exact .inr (.inr (.inl e))
    · exact .inl e
    · exact .inr (.inl e)
    · exact .inr (.inr (.inr e))
  · obtain ⟨a1, a2⟩ := List.pairwise_cons.1 h.ap
    obtain ⟨b1, b2⟩ := List.pairwise_cons.1 a2
    obtain ⟨c1, c2⟩ := List.pairwise_cons.1 b2
    refine List.pairwise_cons.2 ⟨fun x hx b h1 h2 => ?_, List.pairwise_cons.2 ⟨fun x hx => a1 x ?_, List.pairwise_cons.2 ⟨fun x hx => b1 x (List.mem_cons_of_mem _ hx), c2⟩⟩⟩
    · rcases List.mem_cons.1 hx with rfl | hx
      · exact a1 c (by simp) b h2 h1
      · rcases List.mem_cons.1 hx with rfl | hx
        · exact b1 c (by simp) b h2 h1
        · exact c1 x hx b h1 h2
    · rcases List.mem_cons.1 hx with rfl | hx
      · simp
      · simp [hx]
end

/-- A block of none of the heaps. -/
def Out (L : List HD) (c : Nat) : Prop := ∀ d ∈ L, ¬ OD d c
/-- What is of none of the heaps stays as it is, and of none. -/
def Far (w : World) (L : List HD) (w' : World) (L' : List HD) : Prop := w.heap.size ≤ w'.heap.size ∧ ∀ c, c < w.heap.size → Out L c → w'.heap[c]? = w.heap[c]? ∧ Out L' c
theorem Sys.out {w0 w : World} {L : List HD} (h : Sys w0 w L) {c : Nat} (hc : w.heap.size ≤ c) : Out L c := fun d hd e => by
  have := (h.hp d hd).1.lt e
  omega
theorem Sys.old {w0 w : World} {L : List HD} (h : Sys w0 w L) {c : Nat} (hc : c < w0.heap.size) : Out L c := fun d hd e => by
  have := (h.hp d hd).2 c e
  omega
theorem Out.swap {d e : HD} {L : List HD} {c : Nat} (h : Out (d :: e :: L) c) : Out (e :: d :: L) c := fun x hx => h x (by simp only [List.mem_cons] at hx ⊢; rcases hx with q | q | q <;> simp [q])
theorem Out.rot {d e f : HD} {L : List HD} {c : Nat} (h : Out (d :: e :: f :: L) c) : Out (f :: d :: e :: L) c := fun x hx => h x (by simp only [List.mem_cons] at hx ⊢; rcases hx with q | q | q | q <;> simp [q])
theorem Far.blk {w w' : World} {L L' : List HD} (h : Far w L w' L') {c : Nat} {t : TypeId} {cs : Array Value} (hb : Blk w c t cs) (ho : Out L c) : Blk w' c t cs := ((h.2 c hb.lt ho).1).trans hb
theorem Far.own {w w' : World} {L L' : List HD} (h : Far w L w' L') {e k n : Nat} {s : Value} {xs : List Value} (ho : Own w e k s n xs) (hs : ∀ b, s.ownBlock = some b → Out L b) : Own w' e k s n xs := by
  refine ⟨ho.1, ?_⟩
  rcases ho.2 with hn | ⟨g, cap, cur, rfl, hb, hg, r⟩
  · exact .inl hn
  · exact .inr ⟨g, cap, cur, rfl, hb, ((h.2 g (lt_of_block hg) (hs g rfl)).1).trans hg, r⟩
theorem Far.out {w w' : World} {L L' : List HD} (h : Far w L w' L') {c : Nat} (hc : c < w.heap.size) (ho : Out L c) : Out L' c := (h.2 c hc ho).2

section
variable {w0 w w' : World} {L : List HD} {p m : Nat} {s : Value} {S : List Th}
theorem far_call {s' : Value} {S' : List Th} (hk : Kept (O p s m) w w') (hf : Fresh w s s') : Far w ((p, s, m, S) :: L) w' ((p, s', m, S') :: L) := by
  refine ⟨hk.size, fun c hc ho => ⟨hk.block c hc (ho _ List.mem_cons_self), fun x hx => ?_⟩⟩
  rcases List.mem_cons.1 hx with rfl | hx
  · have := ho (p, s, m, S) List.mem_cons_self
    rintro (e | e | e)
    · exact this (.inl e)
    · exact this (.inr (.inl e))
    · rcases hf c e with q | q
      · exact this (.inr (.inr q))
      · omega
  · exact ho x (List.mem_cons_of_mem _ hx)
theorem far_add {d : HD} (hb : Below w.heap.size w w') (hn : ∀ b, OD d b → w.heap.size ≤ b) : Far w L w' (d :: L) := by
  refine ⟨hb.size, fun c hc ho => ⟨hb.block c hc, fun x hx => ?_⟩⟩
  rcases List.mem_cons.1 hx with rfl | hx
  · intro e
    have := hn c e
    omega
  · exact ho x hx
theorem far_mono (hb : Below w.heap.size w w') : Far w L w' L := ⟨hb.size, fun c hc ho => ⟨hb.block c hc, ho⟩⟩

theorem sys_new (h : Sys w0 w L) : Calls Try.prog 13 #[] w fun e w' => ∃ p m, e = .returned (.pointer (some ⟨p, 0, none⟩)) ∧ Sys w0 w' ((p, .slice none 0 0, m, []) :: L) ∧ Far w L w' ((p, .slice none 0 0, m, []) :: L) := by
  refine (new_any w).mono ?_
  rintro e w' ⟨p, m, rfl, hp, h1, h2, hb⟩
  have hn : ∀ b, OD (p, .slice none 0 0, m, []) b → w.heap.size ≤ b := by
    rintro b (e | e | e)
    · simp only at e; omega
    · simp only at e; omega
    · simp [Value.ownBlock] at e
  exact ⟨p, m, rfl, h.add hb hp hn, far_add hb hn⟩
theorem sys_push (h : Sys w0 w ((p, s, m, S) :: L)) (hl : S.length ≤ 999999) (id : Int) (k : Ky) {E : Int} {S' : List Th} (hE : (if hasS S id = true then (15 : Int) else 0) = E) (hS : pushS S id k = S') :
    Calls Try.prog 14 #[.pointer (some ⟨p, 0, none⟩), .int .i64 id, kyV k] w fun e w' => ∃ s', e = .returned (.int .i64 E) ∧ Sys w0 w' ((p, s', m, S') :: L) ∧ Far w ((p, s, m, S) :: L) w' ((p, s', m, S') :: L) := by
  subst hE hS
  refine (push_any p s m S id k w h.head hl).mono ?_
  rintro e w' ⟨s', rfl, hp, hk, hf⟩
  exact ⟨s', rfl, h.call hk hp hf, far_call hk hf⟩
theorem sys_lower (h : Sys w0 w ((p, s, m, S) :: L)) (hl : S.length ≤ 1000000) (id : Int) (k : Ky) {E : Int} {S' : List Th} (hE : lowerE S id k = E) (hS : lowerS S id k = S') :
    Calls Try.prog 16 #[.pointer (some ⟨p, 0, none⟩), .int .i64 id, kyV k] w fun e w' => e = .returned (.int .i64 E) ∧ Sys w0 w' ((p, s, m, S') :: L) ∧ Far w ((p, s, m, S) :: L) w' ((p, s, m, S') :: L) := by
  subst hE hS
  refine (lower_any p s m S id k w h.head hl).mono ?_
  rintro e w' ⟨rfl, hp, hk⟩
  exact ⟨rfl, h.call hk hp (fun _ e => .inl e), far_call hk (fun _ e => .inl e)⟩
theorem sys_pop (h : Sys w0 w ((p, s, m, S) :: L)) (hl : S.length ≤ 1000000) {V : Value} {S' : List Th} (hV : popV S = V) (hS : S.tail = S') :
    Calls Try.prog 18 #[.pointer (some ⟨p, 0, none⟩)] w fun e w' => ∃ s', e = .returned V ∧ Sys w0 w' ((p, s', m, S') :: L) ∧ Far w ((p, s, m, S) :: L) w' ((p, s', m, S') :: L) := by
  subst hV hS
  refine (pop_any p s m S w h.head hl).mono ?_
  rintro e w' ⟨s', rfl, hp, hk, hf⟩
  exact ⟨s', rfl, h.call hk hp hf, far_call hk hf⟩
theorem sys_key (h : Sys w0 w ((p, s, m, S) :: L)) (hl : S.length ≤ 1000000) (id : Int) {V : Value} (hV : keyV S id = V) :
    Calls Try.prog 23 #[.pointer (some ⟨p, 0, none⟩), .int .i64 id] w fun e w' => e = .returned V ∧ Sys w0 w' ((p, s, m, S) :: L) ∧ Below w.heap.size w w' := by
  subst hV
  refine (key_any p s m S id w h.head hl).mono ?_
  rintro e w' ⟨rfl, hb⟩
  exact ⟨rfl, h.mono hb, hb⟩
theorem sys_len (h : Sys w0 w ((p, s, m, S) :: L)) : Calls Try.prog 25 #[.pointer (some ⟨p, 0, none⟩)] w fun e w' => e = .returned (.int .i64 S.length) ∧ w = w' := len_any p s m S w h.head
theorem sys_clone (h : Sys w0 w ((p, s, m, S) :: L)) (hl : S.length ≤ 1000000) :
    Calls Try.prog 15 #[.pointer (some ⟨p, 0, none⟩)] w fun e w' => ∃ q t k, e = .returned (.pointer (some ⟨q, 0, none⟩)) ∧ Sys w0 w' ((q, t, k, S) :: (p, s, m, S) :: L) ∧ Far w ((p, s, m, S) :: L) w' ((q, t, k, S) :: (p, s, m, S) :: L) := by
  refine (clone_any p s m S w h.head hl).mono ?_
  rintro e w' ⟨q, t, k, rfl, hp, hn, hb⟩
  exact ⟨q, t, k, rfl, h.add hb hp hn, far_add hb hn⟩
end

set_option maxHeartbeats 2000000 in
theorem awake_true (w : World) : Calls Try.prog 12 #[] w fun e w' => e = .returned (.bool true) ∧ Below w.heap.size w w' := by
  go_enter Try.func12, Try.ntmps12
  have hk := eqKey
  go_wp2_with fail
  refine (sys_new (Sys.nil w)).mono ?_
  rintro e w1 ⟨p, m, rfl, hs, _⟩
  have H1 := Lib.hid hs
  clear hs
  go_wp2_with fail
  refine (sys_push H1.out (by simp) 5 (3, 0, 0, 0) (E := 0) (S' := [(5, 3, 0, 0, 0)]) rfl rfl).mono ?_
  rintro e w2 ⟨s2, rfl, hs, _⟩
  have H2 := Lib.hid hs
  clear hs
  go_wp2_with fail
  refine (sys_push H2.out (by simp) 9 (3, 0, 0, 0) (E := 0) (S' := [(5, 3, 0, 0, 0), (9, 3, 0, 0, 0)]) rfl rfl).mono ?_
  rintro e w3 ⟨s3, rfl, hs, _⟩
  have H3 := Lib.hid hs
  clear hs
  go_wp2_with fail
  refine (sys_push H3.out (by simp) 2 (4, 0, 0, 0) (E := 0) (S' := [(5, 3, 0, 0, 0), (9, 3, 0, 0, 0), (2, 4, 0, 0, 0)]) rfl rfl).mono ?_
  rintro e w4 ⟨s4, rfl, hs, _⟩
  have H4 := Lib.hid hs
  clear hs
  go_wp2_with fail
  refine (sys_clone H4.out (by simp)).mono ?_
  rintro e w5 ⟨q, t, k, rfl, hs, _⟩
  have H5 := Lib.hid hs
  clear hs
  go_wp2_with fail
  refine (sys_lower H5.out (by simp) 2 (3, 0, -1, 0) (E := 0) (S' := [(2, 3, 0, -1, 0), (5, 3, 0, 0, 0), (9, 3, 0, 0, 0)]) rfl rfl).mono ?_
  rintro e w6 ⟨rfl, hs, _⟩
  have H6 := Lib.hid hs.swap
  clear hs
  go_wp2_with fail
  refine (sys_pop H6.out (by simp) (V := .tuple #[.int .i64 5, kyV (3, 0, 0, 0), .bool true]) rfl rfl).mono ?_
  rintro e w7 ⟨s7, rfl, hs, _⟩
  have H7 := Lib.hid hs
  clear hs
  go_wp2_with fail
  have M7 := Lib.hid (H7.out.mono (w' := w7.alloc (.cells #[.int .u64 3, .int .u64 0, .int .i64 0, .int .i64 0] 24)) (by go_grown))
  have K7 := Lib.hid (Blk.new w7 24 #[.int .u64 3, .int .u64 0, .int .i64 0, .int .i64 0])
  have U7 := Lib.hid (H7.out.out (Nat.le_refl _))
  refine (sys_pop M7.out (by simp) (V := .tuple #[.int .i64 9, kyV (3, 0, 0, 0), .bool true]) rfl rfl).mono ?_
  rintro e w8 ⟨s8, rfl, hs, hf⟩
  have K8 := Lib.hid (hf.blk K7.out U7.out)
  have U8 := Lib.hid (hf.out K7.out.lt U7.out).swap
  have H8 := Lib.hid hs.swap
  clear hs hf
  go_wp2_with fail
  have M8 := Lib.hid (H8.out.mono (w' := w8.alloc (.cells #[.int .u64 3, .int .u64 0, .int .i64 0, .int .i64 0] 24)) (by go_grown))
  refine (sys_pop M8.out (by simp) (V := .tuple #[.int .i64 2, kyV (3, 0, -1, 0), .bool true]) rfl rfl).mono ?_
  rintro e w9 ⟨s9, rfl, hs, hf⟩
  have K9 := hf.blk (K8.out.alloc _) U8.out
  have r0 := K9.cell 0
  have r1 := K9.cell 1
  have r2 := K9.cell 2
  have r3 := K9.cell 3
  have hlt := K9.lt
  simp at r0 r1 r2 r3
  have H9 := Lib.hid hs
  clear hs hf K9
  have e1 : ∀ w, (binOp .eql 24 (.agg #[.int .u64 3, .int .u64 0, .int .i64 0, .int .i64 0]) (.agg #[.int .u64 3, .int .u64 0, .int .i64 0, .int .i64 0])).run Try.prog w = .ok (.bool true) w := fun w => eqKey (3, 0, 0, 0) (3, 0, 0, 0) w
  have e2 : ∀ w, (binOp .eql 24 (.agg #[.int .u64 3, .int .u64 0, .int .i64 (-1), .int .i64 0]) (.agg #[.int .u64 3, .int .u64 0, .int .i64 (-1), .int .i64 0])).run Try.prog w = .ok (.bool true) w := fun w => eqKey (3, 0, -1, 0) (3, 0, -1, 0) w
  clear hk
  go_wp2_with fail
  go_ret
  exact ⟨rfl, (H9.out.mono (by go_grown)).below⟩
end Go.Proofs.Ytffgjjlamdaajaa
