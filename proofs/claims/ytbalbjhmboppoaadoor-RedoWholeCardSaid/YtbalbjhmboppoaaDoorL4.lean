/-
  The log's Checkpoint.
  The disk's cache holds fewer than 2^39 writes; the table of check lies where it lies.
-/
import Derived.Test.YtbalbjhmboppoaaDoorL3
set_option linter.unusedSimpArgs false
set_option linter.unusedVariables false
namespace Go.Proofs.YtbalbjhmboppoaaDoor
open Go.RowKit

structure LRes where
  log : LogS
  disk : DiskS
  err : Int
def headW (L : LogS) (D : DiskS) : DiskS × Int :=
  if (D.writeF true []).2 = 0 then (D.writeF true []).1.writeF true [(L.base, headB L.place L.seq)] else D.writeF true []
def checkpointS (L : LogS) (D : DiskS) : LRes :=
  if L.broken = true then ⟨L, D, 13⟩
  else if L.used = 0 then ⟨L, D, 0⟩
  else ⟨triedS (if (headW L D).2 = 0 then { L with used := 0 } else L) (headW L D).2, (headW L D).1, (headW L D).2⟩
/-- A call has turned a log and its disk. -/
def LRet (w : World) (S : List Nat) (q p : Nat) (r : LRes) (e : Ending) (w' : World) : Prop :=
  ∃ S', e = .returned (.int .i64 r.err) ∧ DiskAt w' S' p r.disk ∧ LogAt w' q p r.log ∧ Upd (q :: S) w w' ∧ Sub S S' w ∧ q ∉ S'
theorem log_cells {w : World} {q p : Nat} {L : LogS} (h : LogAt w q p L) : w.cell? ⟨q, 0, none⟩ = some (.pointer (some ⟨p, 0, none⟩)) ∧ w.cell? ⟨q, 1, none⟩ = some (.int .i64 L.base) ∧ w.cell? ⟨q, 3, none⟩ = some (.int .i64 L.place) ∧ w.cell? ⟨q, 4, none⟩ = some (.int .i64 L.seq) :=
  ⟨blk_cell h 0, blk_cell h 1, blk_cell h 3, blk_cell h 4⟩
theorem Sub.not {S S' : List Nat} {w : World} {q : Nat} (h : Sub S S' w) (hq : q ∉ S) (hl : q < w.heap.size) : q ∉ S' := fun hm => by
  rcases h q hm with h1 | h1
  · exact hq h1
  · omega
theorem PutsR.nil (w : World) (S : List Nat) : PutsR w S (.slice none 0 0) [] := ⟨none, 0, rfl, Nat.le_refl _, fun h => by simp at h⟩
/-- What holds of each open log's numbers. -/
structure LogS.Ok (L : LogS) : Prop where
  b0 : 0 ≤ L.base
  b1 : L.base ≤ 65536
  z0 : 4 ≤ L.size
  z1 : L.size ≤ 65536
  p0 : 0 ≤ L.place
  p1 : L.place < L.size
  s0 : 0 ≤ L.seq
  s1 : L.seq ≤ 1099511627776
  u0 : 0 ≤ L.used
  u1 : L.used ≤ 65536

set_option maxRecDepth 100000 in
set_option maxHeartbeats 2000000 in
theorem Checkpoint_any {S : List Nat} {q p : Nat} {L : LogS} {D : DiskS} (w : World) (h : LogAt w q p L) (hD : DiskAt w S p D) (ok : D.Ok) (hr : D.cache.length ≤ 1000000000000) (hqS : q ∉ S) (h0 : (0 : Nat) ∉ S) (hq0 : q ≠ 0) (hT : Tab w) :
    Calls Tryd.prog 24 #[.pointer (some ⟨q, 0, none⟩)] w fun e w' => LRet w S q p (checkpointS L D) e w' := by
  have hR := ready_any w h
  unfold readyE at hR
  have hqz := blk_lt h
  have c5 : w.cell? ⟨q, 5, none⟩ = some (.int .i64 L.used) := blk_cell h 5
  have c0 : w.cell? ⟨q, 0, none⟩ = some (.pointer (some ⟨p, 0, none⟩)) := blk_cell h 0
  have HL := Go.Lib.hid h
  have HT := Go.Lib.hid hT
  cases hbr : L.broken
  · rw [hbr] at hR
    by_cases hu : L.used = 0
    · have hd : (L.used == 0) = true := by simp [hu]
      have hv : Hid (checkpointS L D = ⟨L, D, 0⟩) := by show _ = _; unfold checkpointS; rw [if_neg (by rw [hbr]; decide), if_pos hu]
      clear hbr hu
      go_enter Tryd.func24, Tryd.ntmps24
      go_wp2_with fail
      refine hR.mono ?_
      rintro e w1 ⟨rfl, rfl⟩
      go_wp2_with fail
      go_ret
      rw [hv.out]
      exact ⟨S, rfl, hD, HL.out, Upd.refl _ _, Sub.refl _ _, hqS⟩
    · have hd : (L.used == 0) = false := by simp [hu]
      have hv : Hid (checkpointS L D = ⟨triedS (if (headW L D).2 = 0 then { L with used := 0 } else L) (headW L D).2, (headW L D).1, (headW L D).2⟩) := by
        show _ = _; unfold checkpointS; rw [if_neg (by rw [hbr]; decide), if_neg hu]
      have hwr := write_any w true [] hD ok (PutsR.nil w S) (by simp; omega) (by simp)
      have hok1 := ok.writeF true [] (by simp; omega)
      have hca1 := DiskS.writeF_cache D true []
      obtain ⟨e1, he1⟩ : ∃ e1, e1 = (D.writeF true []).2 := ⟨_, rfl⟩
      obtain ⟨D1, hD1'⟩ : ∃ D1, D1 = (D.writeF true []).1 := ⟨_, rfl⟩
      rw [← he1, ← hD1'] at hwr
      rw [← hD1'] at hok1 hca1
      have hH : headW L D = if e1 = 0 then D1.writeF true [(L.base, headB L.place L.seq)] else (D1, e1) := by
        unfold headW
        rw [← he1, ← hD1']
        split
        · rfl
        · rw [he1, hD1']
      have HH := Go.Lib.hid hH
      clear he1 hD1' hH hbr hu h
      go_enter Tryd.func24, Tryd.ntmps24
      go_wp2_with fail
      refine hR.mono ?_
      rintro e w1 ⟨rfl, rfl⟩
      clear hR
      go_wp2_with fail
      refine hwr.mono ?_
      rintro e w1 ⟨S1, rfl, hD1, hU1, hS1⟩
      clear hwr
      have hL1 : LogAt w1 q p L := hU1.get HL.out hqS
      have hq1 : q ∉ S1 := hS1.not hqS hqz
      have hz1 := hU1.size
      by_cases hz : e1 = 0
      · subst hz
        have hT1 : Tab w1.drew := (HT.out.kept (hU1.block 0 HT.out.lt h0)).kept rfl
        have hL1' : LogAt w1.drew q p L := hL1
        have hD1' : DiskAt w1.drew S1 p D1 := hD1
        have hqz1 : q < w1.drew.heap.size := blk_lt hL1
        have hU1' : Upd S w w1.drew := hU1.drew
        have hsz : ∀ x ∈ [(L.base, headB L.place L.seq)], x.2.length ≤ 1099511627776 := by
          intro x hx
          simp only [List.mem_cons, List.not_mem_nil, or_false] at hx
          subst hx
          have := headB_len L.place L.seq
          dsimp only; omega
        have hroom : D1.cache.length + [(L.base, headB L.place L.seq)].length ≤ 1099511627776 := by simp at hca1 ⊢; omega
        go_wp2_with fail
        go_region_held3 (fun w' => w'.cell? ⟨q, 0, none⟩ = some (.pointer (some ⟨p, 0, none⟩)) ∧ w'.cell? ⟨q, 1, none⟩ = some (.int .i64 L.base) ∧ w'.cell? ⟨q, 3, none⟩ = some (.int .i64 L.place) ∧ w'.cell? ⟨q, 4, none⟩ = some (.int .i64 L.seq))
          (first | exact log_cells hL1' | exact log_cells ((hb2.block q hqz1).trans hL1') | exact log_cells (blk_alloc ((hb2.block q hqz1).trans hL1') _) | exact log_cells (hU4.get hL1' hq1))
          (first | (go_at_call 10; refine (Head_any _ _ _ hT1).mono ?_; rintro e w2 ⟨rfl, hb2⟩) | (go_at_call 41; refine (write_new _ true [(L.base, headB L.place L.seq)] _ 1 rfl rfl (by omega) (hD1'.below hb2) hok1 hroom hsz).mono ?_; rintro e w4 hret; have hr4 := hret.from (Upd.of_below hb2); clear hret; obtain ⟨S4, rfl, hD4, hU4, hS4⟩ := hr4))
        have hL4 : LogAt w4 q p L := hU4.get hL1' hq1
        have hq4 : q ∉ S4 := hS4.not hq1 hqz1
        have hU5 : Upd S w w4 := hU1'.trans hU4 (fun k hk => by rcases hS1 k hk with h | h; exact .inl h; exact .inr h)
        have hS5 : Sub S S4 w := hS1.trans hS4 hz1
        obtain ⟨e2, he2⟩ : ∃ e2, e2 = (D1.writeF true [(L.base, headB L.place L.seq)]).2 := ⟨_, rfl⟩
        obtain ⟨D2, hD2'⟩ : ∃ D2, D2 = (D1.writeF true [(L.base, headB L.place L.seq)]).1 := ⟨_, rfl⟩
        rw [← hD2'] at hD4
        rw [← he2]
        have hH2 : headW L D = (D2, e2) := by rw [HH.out, if_pos (by first | trivial | rfl), he2, hD2']
        have hv2 : Hid (checkpointS L D = ⟨triedS (if e2 = 0 then { L with used := 0 } else L) e2, D2, e2⟩) := by show _ = _; rw [hv.out, hH2]
        clear he2 hD2' hH2 HH hv hb2 hsz hroom
        by_cases hz2 : e2 = 0
        · subst hz2
          have f5 := blk_free hL4 5
          have k5 : w4.cell? ⟨q, 5, none⟩ = some (.int .i64 L.used) := blk_cell hL4 5
          obtain ⟨W, hW⟩ : ∃ W, W = w4.setCell ⟨q, 5, none⟩ (.int .i64 0) := ⟨_, rfl⟩
          have hLW : LogAt W q p { L with used := 0 } := by
            rw [hW]
            refine (blk_set hL4 5 _).trans ?_
            simp [lcells]
          have hDW : DiskAt W S4 p D2 := by rw [hW]; exact hD4.upd ((Upd.refl [q] w4).set (.inl (by simp)) _ _) (by intro k hk hm; simp at hm; subst hm; exact hq4 hk)
          have hUW : Upd (q :: S) w W := by rw [hW]; exact (hU5.mono (by intro k hk; simp [hk])).set (.inl (by simp)) _ _
          have HW := Go.Lib.hid hW
          go_wp2_with fail
          rw [← HW.out]
          clear hW
          refine (tried_any W 0 hLW).mono ?_
          rintro e w6 ⟨rfl, hL6, hU6⟩
          go_wp2_with fail
          go_ret
          rw [hv2.out, if_pos (by first | trivial | rfl)]
          exact ⟨S4, rfl, hDW.upd hU6 (by intro k hk hm; simp at hm; subst hm; exact hq4 hk), hL6, hUW.trans hU6 (by intro k hk; simp at hk; subst hk; exact .inl (by simp)), hS5, hq4⟩
        · have hz3 : (e2 == 0) = false := by simp [hz2]
          go_wp2_with fail
          refine (tried_any w4 e2 hL4).mono ?_
          rintro e w6 ⟨rfl, hL6, hU6⟩
          go_wp2_with fail
          go_ret
          rw [hv2.out, if_neg hz2]
          exact ⟨S4, rfl, hD4.upd hU6 (by intro k hk hm; simp at hm; subst hm; exact hq4 hk), hL6, (hU5.mono (by intro k hk; simp [hk])).trans hU6 (by intro k hk; simp at hk; subst hk; exact .inl (by simp)), hS5, hq4⟩
      · have hz3 : (e1 == 0) = false := by simp [hz]
        have hv2 : Hid (checkpointS L D = ⟨triedS L e1, D1, e1⟩) := by show _ = _; rw [hv.out, HH.out, if_neg hz, if_neg hz]
        go_wp2_with fail
        refine (tried_any w1 e1 hL1).mono ?_
        rintro e w6 ⟨rfl, hL6, hU6⟩
        go_wp2_with fail
        go_ret
        rw [hv2.out]
        exact ⟨S1, rfl, hD1.upd hU6 (by intro k hk hm; simp at hm; subst hm; exact hq1 hk), hL6, (hU1.mono (by intro k hk; simp [hk])).trans hU6 (by intro k hk; simp at hk; subst hk; exact .inl (by simp)), hS1, hq1⟩
  · rw [hbr] at hR
    have hv : Hid (checkpointS L D = ⟨L, D, 13⟩) := by show _ = _; unfold checkpointS; rw [if_pos hbr]
    clear hbr
    go_enter Tryd.func24, Tryd.ntmps24
    go_wp2_with fail
    refine hR.mono ?_
    rintro e w1 ⟨rfl, rfl⟩
    go_wp2_with fail
    go_ret
    rw [hv.out]
    exact ⟨S, rfl, hD, HL.out, Upd.refl _ _, Sub.refl _ _, hqS⟩

end Go.Proofs.YtbalbjhmboppoaaDoor
