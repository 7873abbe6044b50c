/-
  The rows of RedoWhole's play; its helper picks, walked.
  The table of check lies where it lies.
-/
import Derived.Test.YtbalbjhmboppoaaDoorV9
import Derived.Test.YtbalbjhmboppoaaDoorPM
set_option linter.unusedSimpArgs false
set_option linter.unusedVariables false
namespace Go.Proofs.YtbalbjhmboppoaaDoor
open Go.RowKit
section
attribute [local irreducible] headB firstB lastB lineB zeros fillB
section
variable {n : Nat} {D : DiskS} {L : LogS} {A B C : List Bs} {ps : List PutM} {k k' : Nat}
/-- The journal's state in a play: open, and what is known is there; or closed by power, and one of two can be had. -/
def WSt (n : Nat) (D : DiskS) (L : LogS) (A B : List Bs) (k : Nat) : Prop := (LiveE n D L A ∧ A = B ∧ L.seq ≤ (k : Int) + 1) ∨ (L.broken = true ∧ Dark n D A B ((k : Int) + 1))
def RecC (n : Nat) (D : DiskS) (C : List Bs) (b : Int) : Prop := D.on = true ∧ D.cache = [] ∧ ∃ hp hs all p s, Rec n D.lies hp hs all p s C ∧ s ≤ b
theorem WSt.mono (h : WSt n D L A B k) (hk : k ≤ k') : WSt n D L A B k' := by
  rcases h with ⟨h1, h2, h3⟩ | ⟨h1, Q, q1, q2⟩
  · exact .inl ⟨h1, h2, by omega⟩
  · exact .inr ⟨h1, Q, q1, fun l hl => (q2 l hl).imp (fun h => h.mono (by omega)) (fun h => h.mono (by omega))⟩
theorem WSt.checkpoint (h : WSt n D L A B k) : WSt n (checkpointS L D).disk (checkpointS L D).log A B k := by
  rcases h with ⟨h1, h2, h3⟩ | ⟨h1, h2⟩
  · rcases checkpoint_specE h1 with ⟨g1, g2, g3, g4, g5⟩ | ⟨g1, g2, g3, g4, g5⟩
    · exact .inl ⟨g2, h2, by omega⟩
    · obtain ⟨Q, q1, q2⟩ := g5 B
      exact .inr ⟨g2, Q, q1, fun l hl => (q2 l hl).imp (fun h => h.mono (by omega)) (fun h => h.mono (by omega))⟩
  · have e : checkpointS L D = ⟨L, D, 13⟩ := by unfold checkpointS; rw [if_pos h1]
    rw [e]
    exact .inr ⟨h1, h2⟩
theorem LiveE.arm (h : LiveE n D L A) (x : Int) : LiveE n (D.armS x) L A := by
  obtain ⟨hp, hs, all, p, h⟩ := h
  exact ⟨hp, hs, all, p, h.on, h.whole, h.base, h.size, h.place, h.used, h.pend, h.view⟩
theorem WSt.arm (h : WSt n D L A B k) (x : Int) : WSt n (D.armS x) L A B k := by
  rcases h with ⟨h1, h2, h3⟩ | ⟨h1, Q, q1, q2⟩
  · exact .inl ⟨h1.arm x, h2, h3⟩
  · exact .inr ⟨h1, Q, q1, q2⟩
theorem WSt.crash (h : WSt n D L A B k) (hl : D.lies.length = 40) (ys : List Int) : ∃ C, (C = A ∨ C = B) ∧ RecC n (D.crashS ys) C ((k : Int) + 1) ∧ (D.crashS ys).armed = false := by
  rcases h with ⟨⟨hp, hs, all, p, h1⟩, h2, h3⟩ | ⟨h1, h2⟩
  · obtain ⟨c1, c2, c3, c4⟩ := crash_spec h1.pend (by omega) ys
    exact ⟨A, .inl rfl, ⟨c3, c2, _, _, _, _, _, c1.toRec, h3⟩, c4⟩
  · obtain ⟨C, hC, hp, hs, all, p, s, r1, r2, c2, c3, c4⟩ := h2.open ys hl
    exact ⟨C, hC, ⟨c3, c2, _, _, _, _, _, r1, r2⟩, c4⟩
theorem RecC.again {b : Int} (h : RecC n D C b) (x : Int) (ys : List Int) : RecC n ((openS (D.armS x) 0 n).disk.crashS ys) C b ∧ ((openS (D.armS x) 0 n).disk.crashS ys).armed = false := by
  obtain ⟨h1, h2, hp, hs, all, p, s, h3, h4⟩ := h
  have h3' : Rec n (D.armS x).lies hp hs all p s C := h3
  rcases open_spec (D := D.armS x) h1 h2 h3' with ⟨g1, ⟨hp', hs', all', p', g2⟩, g3, g4⟩ | ⟨g1, g2, g3, g4⟩
  · have hlen := g2.core.len
    obtain ⟨c1, c2, c3, c4⟩ := crash_spec g2.pend (by omega) ys
    dsimp only at c1
    exact ⟨⟨c3, c2, _, _, _, _, _, c1.toRec, by rw [g3]; exact h4⟩, c4⟩
  · obtain ⟨Q, q1, q2⟩ := g4 C
    have hlen : (openS (D.armS x) 0 n).disk.lies.length = 40 := by
      rcases q2 _ q1.1 with ⟨_, _, _, _, _, r1, _⟩ | ⟨_, _, _, _, _, r1, _⟩ <;> exact r1.1.len
    obtain ⟨c1, c2, c3, c4⟩ := crash_spec q1 (by omega) ys
    rcases q2 _ c1 with ⟨_, _, _, _, _, r1, r2⟩ | ⟨_, _, _, _, _, r1, r2⟩
    · exact ⟨⟨c3, c2, _, _, _, _, _, r1, Int.le_trans r2 h4⟩, c4⟩
    · exact ⟨⟨c3, c2, _, _, _, _, _, r1, Int.le_trans r2 h4⟩, c4⟩
theorem RecC.open {b : Int} (h : RecC n D C b) (ha : D.armed = false) : (openS D 0 n).err = 0 ∧ LiveE n (openS D 0 n).disk ⟨0, n, (openS D 0 n).place, (openS D 0 n).seq, 0, false⟩ C ∧ (openS D 0 n).seq ≤ b := by
  obtain ⟨h1, h2, hp, hs, all, p, s, h3, h4⟩ := h
  rcases open_spec h1 h2 h3 with ⟨g1, g2, g3, g4⟩ | ⟨g1, g2, g3⟩
  · exact ⟨g1, g2, by rw [g3]; exact h4⟩
  · rw [ha] at g2; cases g2
theorem RecC.len {b : Int} (h : RecC n D C b) : D.lies.length = 40 := by
  obtain ⟨h1, h2, hp, hs, all, p, s, h3, h4⟩ := h
  exact h3.1.len
theorem LiveE.len (h : LiveE n D L A) : D.lies.length = 40 := by
  obtain ⟨hp, hs, all, p, h⟩ := h
  exact h.core.len
theorem Dark.len {b : Int} (h : Dark n D A B b) : D.lies.length = 40 := by
  obtain ⟨Q, q1, q2⟩ := h
  rcases q2 _ q1.1 with ⟨_, _, _, _, _, r1, _⟩ | ⟨_, _, _, _, _, r1, _⟩ <;> exact r1.1.len
theorem WSt.len (h : WSt n D L A B k) : D.lies.length = 40 := by
  rcases h with ⟨h1, h2, h3⟩ | ⟨h1, h2⟩
  · exact h1.len
  · exact h2.len
/-- A transaction in a play. -/
theorem WSt.commit (h : WSt n D L A B k) (hn : 6 ≤ n) (hk : k ≤ 1000) (hx : ∀ x ∈ ps, (n : Int) ≤ x.1 ∧ x.1 < 40 ∧ x.2.length = 256) (hl : ps.length ≤ 6) :
    ((commitS L D ps).err = 0 ∧ LiveE n (commitS L D ps).disk (commitS L D ps).log (lay A ps) ∧ (commitS L D ps).log.seq ≤ (k : Int) + 2) ∨
    ((commitS L D ps).err = 14 ∧ WSt n (commitS L D ps).disk (commitS L D ps).log A (lay A ps) (k + 1)) ∨
    ((commitS L D ps).err ≠ 0 ∧ (commitS L D ps).err ≠ 14 ∧ (commitS L D ps).disk = D ∧ (commitS L D ps).log = L) := by
  rcases h with ⟨h1, h2, h3⟩ | ⟨h1, h2⟩
  · by_cases he : ps = []
    · right; right
      rw [commitS_arg h1 (.inl he)]
      exact ⟨by show ¬ ((1 : Int) = 0); decide, by show ¬ ((1 : Int) = 14); decide, rfl, rfl⟩
    · by_cases hz : n < ps.length + 4
      · right; right
        rw [commitS_size h1 he (fun x hxm => ⟨(hx x hxm).2.2, (hx x hxm).1, (hx x hxm).2.1⟩) hz]
        exact ⟨by show ¬ ((11 : Int) = 0); decide, by show ¬ ((11 : Int) = 14); decide, rfl, rfl⟩
      · have hps : PsOk n ps := ⟨List.length_pos_iff.2 he, by omega, fun x hxm => ⟨(hx x hxm).1, (hx x hxm).2.1⟩, fun x hxm => (hx x hxm).2.2⟩
        rw [commitS_goes h1 hps (by omega)]
        rcases commitC_spec h1 hps (by omega) (by omega) with ⟨g1, g2, g3, g4, g5⟩ | ⟨g1, g2, g3, g4, g5⟩
        · exact .inl ⟨g1, g2, by omega⟩
        · obtain ⟨Q, q1, q2⟩ := g5
          exact .inr (.inl ⟨g1, .inr ⟨g2, Q, q1, fun l hl => (q2 l hl).imp (fun h => h.mono (by push_cast; omega)) (fun h => h.mono (by push_cast; omega))⟩⟩)
  · right; right
    have e : commitS L D ps = ⟨L, D, 13⟩ := by unfold commitS; rw [if_pos h1]
    rw [e]
    exact ⟨by show ¬ ((13 : Int) = 0); decide, by show ¬ ((13 : Int) = 14); decide, rfl, rfl⟩
end
end

theorem picks7_any (kd N : Int) (Ap : Option Addr) (lp cp : Nat) (A : Option Addr) (c : Nat) (len : Nat) (w : World) (hc : len ≤ c) (hl : len ≤ 9223372036854775807) :
    Calls Tryd.prog 31 #[.agg #[.int .i64 kd, .int .i64 N, .slice Ap lp cp, .slice A len c]] w fun e w' => e = .returned (.slice A (min len 20) c) ∧ Below w.heap.size w w' := by
  by_cases h : 20 < len
  · have hm : min len 20 = 20 := by omega
    have HM := Go.Lib.hid hm
    clear hm
    go_enter Tryd.func31, Tryd.ntmps31
    go_wp2_with fail
    go_ret
    exact ⟨by rw [HM.out]; rfl, (Below.refl _ _).alloc (Nat.le_refl _) _⟩
  · have hm : min len 20 = len := by omega
    have HM := Go.Lib.hid hm
    clear hm
    go_enter Tryd.func31, Tryd.ntmps31
    go_wp2_with fail
    go_ret
    exact ⟨by rw [HM.out]; rfl, (Below.refl _ _).alloc (Nat.le_refl _) _⟩

/-- The two rows that the law keeps. -/
structure RowsI (W0 wr : World) (S : List Nat) (q g1 g2 : Nat) (A B : List Bs) : Prop where
  r1 : wr.heap[g1]? = some (.cells (stC A) 53 (0, 0))
  r2 : wr.heap[g2]? = some (.cells (stC B) 53 (0, 0))
  s1 : g1 ∉ S
  s2 : g2 ∉ S
  q1 : g1 ≠ q
  q2 : g2 ≠ q
  ne : g1 ≠ g2
  w1 : W0.heap.size ≤ g1
  w2 : W0.heap.size ≤ g2
  al : A.length = 40
  bl : B.length = 40
section
variable {W0 wr w' : World} {S S' T : List Nat} {q g1 g2 p n : Nat} {A B A' B' : List Bs} {D : DiskS} {L : LogS}
theorem RowsI.upd (h : RowsI W0 wr S q g1 g2 A B) (hu : Upd T wr w') (hs : Sub S S' wr) (h1 : g1 ∉ T) (h2 : g2 ∉ T) : RowsI W0 w' S' q g1 g2 A B :=
  ⟨hu.get h.r1 h1, hu.get h.r2 h2, hs.not h.s1 (blk_lt h.r1), hs.not h.s2 (blk_lt h.r2), h.q1, h.q2, h.ne, h.w1, h.w2, h.al, h.bl⟩
theorem RowsI.log (h : RowsI W0 wr S q g1 g2 A B) (hu : Upd (q :: S) wr w') (hs : Sub S S' wr) : RowsI W0 w' S' q g1 g2 A B :=
  h.upd hu hs (by simp; exact ⟨h.q1, h.s1⟩) (by simp; exact ⟨h.q2, h.s2⟩)
theorem RowsI.disk (h : RowsI W0 wr S q g1 g2 A B) (hu : Upd S wr w') (hs : Sub S S' wr) : RowsI W0 w' S' q g1 g2 A B := h.upd hu hs h.s1 h.s2
theorem RowsI.below (h : RowsI W0 wr S q g1 g2 A B) (hb : Below wr.heap.size wr w') : RowsI W0 w' S q g1 g2 A B :=
  h.upd (Upd.of_below (S := []) hb) (Sub.refl _ _) (by simp) (by simp)
theorem RowsI.newlog (h : RowsI W0 wr S q g1 g2 A B) (hu : Upd S wr w') (hs : Sub S S' wr) {q' : Nat} (hq : wr.heap.size ≤ q') : RowsI W0 w' S' q' g1 g2 A B := by
  have h' := h.disk hu hs
  have e1 := blk_lt h.r1
  have e2 := blk_lt h.r2
  exact ⟨h'.r1, h'.r2, h'.s1, h'.s2, by omega, by omega, h.ne, h.w1, h.w2, h.al, h.bl⟩
theorem RowsI.set1 (h : RowsI W0 wr S q g1 g2 A B) (hl : A'.length = 40) : RowsI W0 (wr.setRow g1 (stC A')) S q g1 g2 A' B :=
  ⟨setRow_heap _ _ _ _ _ _ h.r1, (setRow_other wr g1 g2 _ h.ne.symm).trans h.r2, h.s1, h.s2, h.q1, h.q2, h.ne, h.w1, h.w2, hl, h.bl⟩
theorem RowsI.set2 (h : RowsI W0 wr S q g1 g2 A B) (hl : B'.length = 40) : RowsI W0 (wr.setRow g2 (stC B')) S q g1 g2 A B' :=
  ⟨(setRow_other wr g2 g1 _ h.ne).trans h.r1, setRow_heap _ _ _ _ _ _ h.r2, h.s1, h.s2, h.q1, h.q2, h.ne, h.w1, h.w2, h.al, hl⟩
theorem DW.set (h : DW W0 wr S p D) {g : Nat} (hg : g ∉ S) (hw : W0.heap.size ≤ g) (C : Array Value) : DW W0 (wr.setRow g C) S p D :=
  h.upd (upd_row g C) (by intro k hk hm; simp at hm; subst hm; exact hg hk) (by intro k hk; simp at hk; subst hk; exact hw)
theorem LW.set (h : LW W0 wr S q p L) {g : Nat} (hg : g ≠ q) (C : Array Value) : LW W0 (wr.setRow g C) S q p L :=
  h.upd (upd_row g C) (Sub.refl _ _) (by simp; exact fun e => hg e.symm)
end
/-- In the play: behind so many steps. -/
structure PlayI (W0 wr : World) (q p n g1 g2 k : Nat) (S : List Nat) (D : DiskS) (L : LogS) (A B : List Bs) : Prop where
  dw : DW W0 wr S p D
  lw : LW W0 wr S q p L
  rows : RowsI W0 wr S q g1 g2 A B
  st : WSt n D L A B k
  ok : D.Ok
  lok : L.Ok
  seq : L.seq ≤ (k : Int) + 1
  cache : D.cache.length ≤ 70000 + 200000 * k
def PlayX (W0 wr : World) (q p n g1 g2 k : Nat) : Prop := ∃ S D L A B, PlayI W0 wr q p n g1 g2 k S D L A B
/-- A step of the script, as it lies. -/
structure OpR (w : World) (A : Option Addr) (i : Nat) (b off : Nat) (kd N : Int) (Ap : Option Addr) (cp : Nat) (lp : List (Int × UInt8)) (Ak : Option Addr) (ck : Nat) (xs : List Int) : Prop where
  at_ : A = some ⟨b, off, none⟩
  blk : b < w.heap.size
  c0 : w.cell? ⟨b, off + i * 4, none⟩ = some (.int .i64 kd)
  c1 : w.cell? ⟨b, off + i * 4 + 1, none⟩ = some (.int .i64 N)
  c2 : w.cell? ⟨b, off + i * 4 + 2, none⟩ = some (.slice Ap lp.length cp)
  c3 : w.cell? ⟨b, off + i * 4 + 3, none⟩ = some (.slice Ak xs.length ck)
  kd0 : -9223372036854775808 ≤ kd
  kd1 : kd ≤ 9223372036854775807
  n0 : -9223372036854775808 ≤ N
  n1 : N ≤ 9223372036854775807
  rp : Reads w Ap (specCells lp)
  lc : lp.length ≤ cp
  lm : lp.length ≤ 9223372036854775807
  lr : ∀ x ∈ lp, -9223372036854775808 ≤ x.1 ∧ x.1 ≤ 9223372036854775807
  rk : Reads w Ak (xs.map (Value.int .i64))
  kc : xs.length ≤ ck
  km : xs.length ≤ 9223372036854775807
def OpsR (w : World) (A : Option Addr) (m : Nat) : Prop := ∀ i, i < m → ∃ b off kd N Ap cp lp Ak ck xs, OpR w A i b off kd N Ap cp lp Ak ck xs

theorem wpList_load_g {ops : Array Oper} {rest : List Oper} {o : Oper} {a : Act} {w : World} {Q : Exit → Act → World → Prop} (hgd : Region.wanted o (yielded ops a.tmps) = true) (x : Operand) (ho : o.op = .load 53 x) (g : Nat) (hx : a.eval x = .pointer (some ⟨g, 0, none⟩))
    (cs : Array Value) (hg : w.heap[g]? = some (.cells cs 53 (0, 0))) (hs : cs.size = 40) (h : wpList Tryd.prog ops Q rest (a.put o.dst (.agg cs)) w) : wpList Tryd.prog ops Q (o :: rest) a w :=
  wpList_step fun K hK => by
    simp only [hgd, if_true]
    exact wp_load_row 53 x ho g hx 53 cs (0, 0) _ hg Tryd.underlying53 rfl (by rw [info_state, hs]) (hK _ _ h)
theorem wpList_store_g {ops : Array Oper} {rest : List Oper} {o : Oper} {a : Act} {w : World} {Q : Exit → Act → World → Prop} (hgd : Region.wanted o (yielded ops a.tmps) = true) (x y : Operand) (ho : o.op = .store 53 x y) (g : Nat) (cs : Array Value) (hx : a.eval x = .pointer (some ⟨g, 0, none⟩)) (hy : a.eval y = .agg cs)
    (old : Array Value) (hg : w.heap[g]? = some (.cells old 53 (0, 0))) (hs : cs.size = 40) (ho2 : old.size = 40) (h1 : cs.all (·.oneCell') = true) (h : wpList Tryd.prog ops Q rest (a.put o.dst undef) (w.setRow g cs)) : wpList Tryd.prog ops Q (o :: rest) a w :=
  wpList_step fun K hK => by
    simp only [hgd, if_true]
    exact wp_store_row 53 x y ho g cs hx hy 53 old hg (by rw [info_state, hs]) (by rw [ho2, hs]) h1 (hK _ _ h)
theorem after_st (S : List Bs) (A : Option Addr) (c : Nat) (ps : List PutM) (w : World) (hS : S.length = 40) (hR : Reads w A (putCells2 ps)) (hc : ps.length ≤ c) (hl : ps.length ≤ 65536) (ha : ∀ x ∈ ps, 0 ≤ x.1 ∧ x.1 < 40) :
    Calls Tryd.prog 27 #[.agg (stC S), .slice A ps.length c] w fun e w' => e = .returned (.agg (stC (lay S ps))) ∧ Below w.heap.size w w' := after_any S A c ps w hS hR hc hl ha
theorem reads_st {Sb : List Nat} {q p : Nat} {L : LogS} {D : DiskS} (S : List Bs) (n : Nat) (w : World) (hS : S.length = 40) (hn : n ≤ 40) (h : LogAt w q p L) (hD : DiskAt w Sb p D) (ok : D.Ok) (hbr : L.broken = false) :
    Calls Tryd.prog 28 #[.agg (stC S), .pointer (some ⟨q, 0, none⟩), .int .i64 (n : Int)] w fun e w' => e = .returned (.bool (readsB S D n)) ∧ Below w.heap.size w w' := reads_any S n w hS hn h hD ok hbr
/-- Power goes and comes, in the play. -/
def CrashGo (W0 w : World) (S : List Nat) (p : Nat) (D' : DiskS) (e : Ending) (w' : World) : Prop := ∃ S', e = .returned (.tuple #[]) ∧ DW W0 w' S' p D' ∧ Upd S w w' ∧ Sub S S' w
theorem crash_go {W0 w : World} {S : List Nat} {p : Nat} {D : DiskS} (h : DW W0 w S p D) (ok : D.Ok) (A : Option Addr) (c m : Nat) (xs : List Int) (hm : m = min xs.length 20) (hR : Reads W0 A (xs.map (Value.int .i64))) :
    Calls Tryd.prog 29 #[.pointer (some ⟨p, 0, none⟩), .slice A m c] w fun e w' => CrashGo W0 w S p (D.crashS (xs.take m)) e w' := by
  have hyl : (xs.take m).length = m := by simp; omega
  have hc := dCrash_any (c := c) w (xs.take m) h.d ok (by omega) (by rw [List.map_take]; exact (hR.below h.b).takeN m) (fun b off hA hne hm2 => by
    obtain ⟨b', off', hA', hcell⟩ := hR (by intro e; apply hne; simp at e; simp [e])
    rw [hA] at hA'
    obtain ⟨rfl, rfl⟩ : b = b' ∧ off = off' := by simpa using hA'
    have h1 := World.block_lt_of_cell? W0 _ (hcell 0 (by
      rcases Nat.eq_zero_or_pos xs.length with h0 | h0
      · exfalso; apply hne; rw [List.eq_nil_of_length_eq_zero h0, List.take_nil]
      · simpa using h0))
    have h2 := h.s b hm2
    simp at h1
    omega)
  rw [hyl] at hc
  refine hc.mono ?_
  rintro e w' ⟨S', rfl, h1, h2, h3⟩
  exact ⟨S', rfl, h.ret h1 h2 h3 h.s, h2, h3⟩
/-- Open, whatever comes of it. -/
def OpenAny (W0 w : World) (S : List Nat) (p : Nat) (D' : DiskS) (e : Ending) (w' : World) : Prop := ∃ S' v1 v2, e = .returned (.tuple #[v1, v2]) ∧ DW W0 w' S' p D' ∧ Upd S w w' ∧ Sub S S' w
theorem open_any {W0 w : World} {S : List Nat} {p : Nat} {D : DiskS} (h : DW W0 w S p D) (ok : D.Ok) (hc : D.cache.length ≤ 549755813888) (n : Nat) :
    Calls Tryd.prog 18 #[.pointer (some ⟨p, 0, none⟩), .int .i64 0, .int .i64 (n : Int)] w fun e w' => OpenAny W0 w S p (openS D 0 n).disk e w' := by
  refine (open_go h ok hc n).mono ?_
  rintro e w' ⟨S', h1, h2, h3, h4⟩
  rcases h4 with ⟨-, rfl⟩ | ⟨-, q, rfl, -, -⟩
  · exact ⟨S', _, _, rfl, h1, h2, h3⟩
  · exact ⟨S', _, _, rfl, h1, h2, h3⟩
def ArmGo (W0 w : World) (S : List Nat) (p : Nat) (D' : DiskS) (e : Ending) (w' : World) : Prop := e = .returned (.tuple #[]) ∧ DW W0 w' S p D' ∧ Upd S w w'
theorem arm_go {W0 w : World} {S : List Nat} {p : Nat} {D : DiskS} (h : DW W0 w S p D) (x : Int) :
    Calls Tryd.prog 30 #[.pointer (some ⟨p, 0, none⟩), .int .i64 x] w fun e w' => ArmGo W0 w S p (D.armS x) e w' := by
  refine (dArm_any w x h.d).mono ?_
  rintro e w' ⟨rfl, h1, h2⟩
  have hp := h.d.ps
  have h3 : Upd S w w' := h2.mono (by intro k hk; simp at hk; subst hk; exact hp)
  exact ⟨rfl, h.ret h1 h3 (Sub.refl _ _) h.s, h3⟩
theorem on_go {W0 w : World} {S : List Nat} {p : Nat} {D : DiskS} (h : DW W0 w S p D) : Calls Tryd.prog 32 #[.pointer (some ⟨p, 0, none⟩)] w fun e w' => e = .returned (.bool D.on) ∧ w = w' := dOn_any w h.d
theorem crash_cache {D : DiskS} (hl : D.lies.length = 40) (ys : List Int) : (D.crashS ys).cache.length ≤ 0 := by
  unfold DiskS.crashS
  rw [if_neg (by unfold DiskS.sectors; omega)]
  exact Nat.le_refl 0

end Go.Proofs.YtbalbjhmboppoaaDoor
