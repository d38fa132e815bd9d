/- Two caches of two kinds with the same things, side by side; what the comparisons tell. -/
import Derived.Test.YtoecclpfgdfpoaaKH
import Derived.Test.YtoecclpfgdfpoaaH
import Derived.ChangeKeysEq
namespace Go.Proofs.Ytoecclpfgdfpoaa.K
open Go.RowKit

/-- A cache of numbers and one of names, with the same things, apart from one another, in memory from B on. -/
structure KindSt (B : Nat) (w0 w : World) (p : Nat) (s : Value) (q : Nat) (t : Value) (room : Int) (L : List Th) : Prop where
  c1 : Go.Proofs.Ytoecclpfgdfpoaa.Cch w p s room L
  c2 : Cch w q t room L
  two : Two B p s q t
  ln : (L.length : Int) ≤ room
  bb : Below B w0 w

/-- The same, with two lists: the one call has been made, the other not yet. -/
structure KHalf (B : Nat) (w0 w : World) (p : Nat) (s : Value) (q : Nat) (t : Value) (room : Int) (L M : List Th) : Prop where
  c1 : Go.Proofs.Ytoecclpfgdfpoaa.Cch w p s room L
  c2 : Cch w q t room M
  two : Two B p s q t
  bb : Below B w0 w

theorem KindSt.fresh {w0 w w' : World} {p q : Nat} {s t : Value} {room : Int} {L : List Th} (h : KindSt w0.heap.size w0 w p s q t room L) (hb : Below w.heap.size w w') : KindSt w0.heap.size w0 w' p s q t room L :=
  ⟨h.c1.fresh hb, h.c2.fresh hb, h.two, h.ln, bl h.bb hb⟩
theorem KHalf.fresh {w0 w w' : World} {p q : Nat} {s t : Value} {room : Int} {L M : List Th} (h : KHalf w0.heap.size w0 w p s q t room L M) (hb : Below w.heap.size w w') : KHalf w0.heap.size w0 w' p s q t room L M :=
  ⟨h.c1.fresh hb, h.c2.fresh hb, h.two, bl h.bb hb⟩
theorem KindSt.one {w0 w w' : World} {p q : Nat} {s s' t : Value} {room : Int} {L L' : List Th} (h : KindSt w0.heap.size w0 w p s q t room L)
    (hc : Go.Proofs.Ytoecclpfgdfpoaa.Cch w' p s' room L') (hk : Kept (O p s) w w') (hf : Fresh w s s') : KHalf w0.heap.size w0 w' p s' q t room L' L :=
  ⟨hc, h.c2.kept hk (fun b hb h2 => h.two.apart b h2 hb), h.two.step hf h.bb.size (fun _ hb => h.c2.lt hb), h.bb.trans (cache_below hk h.two.hp h.two.hs h.bb.size)⟩
theorem KHalf.two_ {w0 w w' : World} {p q : Nat} {s t t' : Value} {room : Int} {L M : List Th} (h : KHalf w0.heap.size w0 w p s q t room L M)
    (hc : Cch w' q t' room L) (hk : Kept (O q t) w w') (hf : Fresh w t t') (hl : (L.length : Int) ≤ room) : KindSt w0.heap.size w0 w' p s q t' room L :=
  ⟨h.c1.kept hk (fun b hb h2 => h.two.apart b hb h2), hc, (h.two.swap.step hf h.bb.size (fun _ hb => h.c1.lt hb)).swap, hl, h.bb.trans (cache_below hk h.two.hq h.two.ht h.bb.size)⟩

/-- Three cells of a new block. -/
def Cells3 (w : World) (b : Nat) (x0 x1 x2 : Int) : Prop := b < w.heap.size ∧ w.cell? ⟨b, 0, none⟩ = some (.int .i64 x0) ∧ w.cell? ⟨b, 1, none⟩ = some (.int .i64 x1) ∧ w.cell? ⟨b, 2, none⟩ = some (.int .i64 x2)
theorem Cells3.kept {w w' : World} {b : Nat} {x0 x1 x2 : Int} {S : Nat → Prop} (h : Cells3 w b x0 x1 x2) (hk : Kept S w w') (hS : ¬ S b) : Cells3 w' b x0 x1 x2 :=
  ⟨Nat.lt_of_lt_of_le h.1 hk.size, (hk.cell h.1 hS).trans h.2.1, (hk.cell h.1 hS).trans h.2.2.1, (hk.cell h.1 hS).trans h.2.2.2⟩
theorem Cells3.fresh {w w' : World} {b : Nat} {x0 x1 x2 : Int} (h : Cells3 w b x0 x1 x2) (hb : Below w.heap.size w w') : Cells3 w' b x0 x1 x2 := h.kept (Kept.of_fresh hb (fun _ => False)) id

/-- What Put leaves, its result told. -/
def PutV (p : Nat) (s : Value) (room : Int) (l : List Th) (k v : Int) (V : Value) (w : World) (e : Ending) (w' : World) : Prop :=
  ∃ s', e = .returned V ∧ Cch w' p s' room (putL room l k v) ∧ Kept (O p s) w w' ∧ Fresh w s s'
theorem put_gone (p : Nat) (s : Value) (room : Int) (l : List Th) (k v : Int) (w : World) (h : Cch w p s room l) (hl : (l.length : Int) ≤ room) (h1 : 1 ≤ room) (h2 : room ≤ 16) (hg : goneB room l k = true) :
    Calls Try.prog 18 #[.pointer (some ⟨p, 0, none⟩), nm k, tw v] w (PutV p s room l k v (.tuple #[nm (goneK room l k), .bool true]) w) := by
  refine (put_any p s room l k v w h hl h1 h2).mono fun e w' hp => ?_
  obtain ⟨s', he, hc, hk, hf⟩ := hp
  refine ⟨s', ?_, hc, hk, hf⟩
  rw [he]
  unfold gone
  rw [hg, if_pos rfl]
theorem put_stay (p : Nat) (s : Value) (room : Int) (l : List Th) (k v : Int) (w : World) (h : Cch w p s room l) (hl : (l.length : Int) ≤ room) (h1 : 1 ≤ room) (h2 : room ≤ 16) (hg : goneB room l k = false) :
    Calls Try.prog 18 #[.pointer (some ⟨p, 0, none⟩), nm k, tw v] w (PutV p s room l k v (.tuple #[nm0, .bool false]) w) := by
  refine (put_any p s room l k v w h hl h1 h2).mono fun e w' hp => ?_
  obtain ⟨s', he, hc, hk, hf⟩ := hp
  refine ⟨s', ?_, hc, hk, hf⟩
  rw [he]
  unfold gone
  rw [hg, if_neg (by simp)]

theorem cells3 : Try.prog.cellsOf 3 = 1 := by kernel_rfl
theorem neTw (v : Int) (w : World) : (binOp .neq 32 (tw v) (tw v)).run Try.prog w = .ok (.bool false) w := by
  obtain ⟨i, hi⟩ := info_of_underlying und3
  rw [run_neq_struct, run_equalIn_array w 9999 _ _ Try.underlying32 hi, cells3]
  simp [List.range, List.range.loop, Op.eqItems, Sem.run_bind, part, isAgg, run_underlying und3, run_equalIn_int _ _ _ _ _ _ _ und3]
theorem neName (x : Int) (s : ByteArray) (w : World) : (binOp .neq 31 (.agg #[.int .i64 x, .string s]) (.agg #[.int .i64 x, .string s])).run Try.prog w = .ok (.bool false) w := by
  have h := eqName x x s w
  rw [run_eql_struct] at h
  rw [run_neq_struct]
  cases hr : (Op.equalIn 10000 31 (.agg #[.int .i64 x, .string s]) (.agg #[.int .i64 x, .string s])).run Try.prog w with
  | ok b w' => rw [hr] at h; simp at h ⊢; exact h
  | halt c w' => rw [hr] at h; simp [Result.andThen] at h
theorem KindSt.lay {w0 w : World} {p q b : Nat} {s t : Value} {room : Int} {L : List Th} (h : KindSt w0.heap.size w0 w p s q t room L) (hb : w0.heap.size ≤ b) (h1 : ¬ O p s b) (h2 : ¬ O q t b) (v0 v1 : Value) :
    KindSt w0.heap.size w0 ((w.setCell ⟨b, 0, none⟩ v0).setCell ⟨b, 1, none⟩ v1) p s q t room L :=
  have hk : Kept (fun x => x = b) w ((w.setCell ⟨b, 0, none⟩ v0).setCell ⟨b, 1, none⟩ v1) := ((Kept.refl (fun x => x = b) w).setCell (p := ⟨b, 0, none⟩) (.inl rfl) _).setCell (p := ⟨b, 1, none⟩) (.inl rfl) _
  ⟨h.c1.kept hk (fun _ hx e => h1 (e ▸ hx)), h.c2.kept hk (fun _ hx e => h2 (e ▸ hx)), h.two, h.ln, h.bb.trans (hk.below (fun _ _ e => e ▸ hb) h.bb.size)⟩
theorem not_O {W : World} {q b : Nat} {t t' : Value} (h : ¬ O q t b) (hf : Fresh W t t') (hb : b < W.heap.size) : ¬ O q t' b := fun e => by
  rcases e with e | e
  · exact h (.inl e)
  · rcases hf b e with e | e
    · exact h (.inr e)
    · omega
theorem cells_S {w : World} {b : Nat} {x0 x1 x2 : Int} (h : Cells3 w b x0 x1 x2) : w.cell? ⟨b, 1, none⟩ = some (.int .i64 x1) ∧ w.cell? ⟨b, 2, none⟩ = some (.int .i64 x2) := ⟨h.2.2.1, h.2.2.2⟩
theorem blk2 {w : World} {b : Nat} {a0 a1 : Value} (h : Blk w b 31 #[a0, a1]) (v0 v1 : Value) : Blk ((w.setCell ⟨b, 0, none⟩ v0).setCell ⟨b, 1, none⟩ v1) b 31 #[v0, v1] := by
  have := (h.set_ 0 v0).set_ 1 v1
  simpa using this
theorem nm_at {l : List Int} {k n : Nat} (h : k < n) : nmAt l n (k * 2) = .int .i64 (l.getD k 0) ∧ nmAt l n (k * 2 + 1) = kstr := by
  unfold nmAt
  refine ⟨?_, ?_⟩
  · rw [if_pos (by omega), if_pos (by omega), show k * 2 / 2 = k by omega]
  · rw [if_neg (by omega), if_pos (by omega)]
end Go.Proofs.Ytoecclpfgdfpoaa.K
