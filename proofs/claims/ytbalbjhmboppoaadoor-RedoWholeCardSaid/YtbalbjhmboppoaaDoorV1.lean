/-
  The chapter's own example, walked: awake is true.
  The table of check lies where it lies.
-/
import Derived.Test.YtbalbjhmboppoaaDoorV0
import Derived.Test.YtbalbjhmboppoaaDoorA1
import Derived.Test.YtbalbjhmboppoaaDoorPK
set_option linter.unusedSimpArgs false
set_option linter.unusedVariables false
namespace Go.Proofs.YtbalbjhmboppoaaDoor
open Go.RowKit

/-- A transaction of one write, laid out as the call's row. -/
theorem commit_one {S : List Nat} {q p : Nat} {L : LogS} {D : DiskS} (w : World) (a : Int) (s : Bs) (h : LogAt w q p L) (hlok : L.Ok) (hD : DiskAt w S p D) (ok : D.Ok) (hr : D.cache.length ≤ 900000000000) (hqS : q ∉ S) (h0 : (0 : Nat) ∉ S) (hq0 : q ≠ 0) (hT : Tab w) (hs : s.length ≤ 1099511627776) :
    Calls Tryd.prog 20 #[.pointer (some ⟨q, 0, none⟩), .slice (some ⟨w.heap.size, 0, none⟩) 1 1] (w.alloc (.cells #[.int .i64 a, .string ⟨s.toArray⟩] 40)) fun e w' => LRet w S q p (commitS L D [(a, s)]) e w' := by
  have hu : Upd [] w (w.alloc (.cells #[.int .i64 a, .string ⟨s.toArray⟩] 40)) := (Upd.refl _ _).alloc _
  have hP := PutsR.fresh (w := w) (S := S) [(a, s)] hD.ltS (by simp)
  refine (Commit_any _ [(a, s)] (hu.get h (by simp)) hlok (hD.upd hu (by simp)) ok hr hqS h0 hq0 (hT.below hu.nil) hP (by simp) (fun x hx => ?_)).mono ?_
  · obtain rfl := List.mem_singleton.1 hx
    exact hs
  · rintro e w' ⟨S', h1, h2, h3, h4, h5, h6⟩
    refine ⟨S', h1, h2, h3, (hu.mono (by simp)).trans h4 (fun k hk => .inl hk), fun k hk => ?_, h6⟩
    rcases h5 k hk with h7 | h7
    · exact .inl h7
    · exact .inr (Nat.le_trans hu.size h7)

theorem ok_fmt12 : aw1.1.Ok ∧ aw1.1.cache.length ≤ 2 := by
  have h0 : (DiskS.new 12).cache.length = 0 := rfl
  have h := formatS_ok (DiskS.Ok.new 12 (by omega) (by omega)) 0 8 (by rw [h0]; omega)
  rw [h0] at h
  unfold aw1
  exact h
theorem ok_aw2 : aw2.disk.Ok ∧ aw2.disk.cache.length ≤ 65540 := by
  have h := ok_fmt12
  have h2 := openS_ok h.1 0 8 (Nat.le_trans h.2 (by decide))
  unfold aw2
  exact ⟨h2.1, Nat.le_trans h2.2 (Nat.add_le_add_right h.2 65538)⟩
theorem one_ok {D : DiskS} (h1 : D.Ok) (h2 : D.cache.length ≤ 65540) (L : LogS) (x : PutM) : (commitS L D [x]).disk.Ok ∧ (commitS L D [x]).disk.cache.length ≤ 65554 := by
  have h := commitS_ok h1 L [x] (by simp) (by omega)
  simp only [List.length_singleton] at h
  exact ⟨h.1, by omega⟩
theorem ok_aw3 : aw3.disk.Ok ∧ aw3.disk.cache.length ≤ 65554 := by
  have h := one_ok ok_aw2.1 ok_aw2.2 awL (9, withB 120)
  unfold aw3
  exact h
theorem ok_aw4 : aw4.Ok := by
  unfold aw4
  exact ok_aw3.1.crash []
theorem aw4_cache : aw4.cache = [] := by
  unfold aw4 DiskS.crashS
  rw [if_neg]
  · rfl
  · have := ok_aw3.1.pos; unfold DiskS.sectors; omega
theorem ok_aw5 : aw5.disk.Ok := (openS_ok ok_aw4 0 8 (by rw [aw4_cache]; simp)).1
set_option maxRecDepth 1000000 in
theorem awL_ok : awL.Ok := by
  have h : (aw2.place : Int) < 8 ∧ 0 ≤ aw2.seq ∧ aw2.seq ≤ 1099511627776 := by decide +kernel
  exact ⟨Int.le_refl 0, by show (0 : Int) ≤ 65536; decide, by show (4 : Int) ≤ 8; decide, by show (8 : Int) ≤ 65536; decide, Int.natCast_nonneg _, h.1, h.2.1, h.2.2, Int.le_refl 0, by show (0 : Int) ≤ 65536; decide⟩

set_option maxRecDepth 100000 in
set_option maxHeartbeats 1000000 in
theorem awake_any (w : World) (hT : Tab w) : Calls Tryd.prog 9 #[] w fun e w' => e = .returned (.bool true) ∧ Below w.heap.size w w' := by
  have HT := Go.Lib.hid hT
  clear hT
  go_enter Tryd.func9, Tryd.ntmps9
  go_wp2_with fail
  refine (sectorNew_any 12 _ (by omega) (by omega)).mono ?_
  rintro e w1 ⟨p, S, rfl, hD, hb, hs⟩
  have h1 : DW w w1 S p (DiskS.new 12) := DW.new HT.out hD hb hs
  have hF := Format_any w1 0 8 h1.d (DiskS.Ok.new 12 (by omega) (by omega)) (by simp [DiskS.new]) h1.t h1.zS
  rw [show (formatS (DiskS.new 12) 0 8).2 = 0 from aw1_ok] at hF
  clear hD hb hs
  go_wp2_with fail
  refine hF.mono ?_
  rintro e w2 ⟨S2, rfl, hD2, hU2, hS2⟩
  have h2 : DW w w2 S2 p aw1.1 := h1.ret hD2 hU2 hS2 h1.s
  clear hD2 hU2 hS2 h1 hF
  have hO := Open_any w2 0 8 h2.d ok_fmt12.1 (Nat.le_trans ok_fmt12.2 (by decide)) h2.t h2.zS
  go_wp2_with fail
  refine hO.mono ?_
  rintro e w3 ⟨S3, hD3, hU3, hS3, hor⟩
  rcases hor with ⟨hne, -⟩ | ⟨-, q, rfl, hL, hqz, hqS⟩
  · exact absurd aw2_ok hne
  have h3 : DW w w3 S3 p aw2.disk := h2.ret hD3 hU3 hS3 h2.s
  have l3 : LW w w3 S3 q p awL := ⟨hL, hqS, Nat.le_trans h2.b.size hqz⟩
  clear hD3 hU3 hS3 hL hqz hqS h2 hO
  go_wp2_with fail
  refine (with_any 120 _ (by omega) (by omega)).mono ?_
  rintro e w4 ⟨rfl, hb4⟩
  have h4 := h3.below hb4
  have l4 := l3.below hb4
  have hz4 := h4.z
  have hqz4 := l4.s
  have hC := commit_one w4 9 (withB 120) l4.l awL_ok h4.d ok_aw2.1 (Nat.le_trans ok_aw2.2 (by decide)) l4.n h4.zS (by omega) h4.t (by rw [withB_len]; omega)
  clear h3 l3 hb4
  go_wp2_with fail
  refine hC.mono ?_
  rintro e w5 ⟨S5, rfl, hD5, hL5, hU5, hS5, hq5⟩
  rw [show (commitS awL aw2.disk [(9, withB 120)]).err = 0 from aw3_ok.1]
  have hTT : ∀ k, k ∈ q :: S3 → w.heap.size ≤ k := by
    intro k hk
    rcases List.mem_cons.1 hk with rfl | hk
    · exact hqz4
    · exact h4.s k hk
  have h5 : DW w w5 S5 p aw3.disk := h4.ret hD5 hU5 hS5 hTT
  have hus := Used_any q (some ⟨p, 0, none⟩) aw3.log w5 hL5
  have hsq := Seq_any q (some ⟨p, 0, none⟩) aw3.log w5 hL5
  rw [aw3_ok.2.1] at hus
  rw [aw3_ok.2.2] at hsq
  clear hD5 hL5 hU5 hS5 hq5 hC h4 l4 hTT
  go_wp2_with fail
  refine hus.mono ?_
  rintro e w6 ⟨rfl, rfl⟩
  go_wp2_with fail
  refine hsq.mono ?_
  rintro e w6 ⟨rfl, rfl⟩
  have hCr := dCrash_any (A := none) (c := 0) w5 [] h5.d ok_aw3.1 (by simp) (fun h => absurd rfl h) (fun _ _ h => by cases h)
  simp only [List.length_nil] at hCr
  go_wp2_with fail
  refine hCr.mono ?_
  rintro e w6 ⟨S6, rfl, hD6, hU6, hS6⟩
  have h6 : DW w w6 S6 p aw4 := h5.ret hD6 hU6 hS6 h5.s
  clear hD6 hU6 hS6 h5 hCr hus hsq
  have hO6 := Open_any w6 0 8 h6.d ok_aw4 (by rw [aw4_cache]; simp) h6.t h6.zS
  go_wp2_with fail
  refine hO6.mono ?_
  rintro e w7 ⟨S7, hD7, hU7, hS7, hor⟩
  rcases hor with ⟨hne, -⟩ | ⟨-, q7, rfl, hL7, hqz7, hqS7⟩
  · exact absurd aw5_ok.1 hne
  have h7 : DW w w7 S7 p aw5.disk := h6.ret hD7 hU7 hS7 h6.s
  clear hU7 hS7 hqz7 hqS7 hO6 h6
  rw [show openS aw4 0 8 = aw5 from rfl] at hL7
  have hRd := lRead_any w7 9 hL7 h7.d ok_aw5
  have e9 : lReadV ⟨0, 8, aw5.place, aw5.seq, 0, false⟩ aw5.disk 9 = .tuple #[.string ⟨(withB 120).toArray⟩, .int .i64 0] := by
    unfold lReadV rdVal
    rw [if_neg (by decide), aw5_ok.2.2]
  rw [e9] at hRd
  have hb7 := h7.b
  clear e9
  go_wp2_with fail
  refine hRd.mono ?_
  rintro e w8 ⟨rfl, hb8⟩
  have hL8 : LogAt w8 q7 p ⟨0, 8, aw5.place, aw5.seq, 0, false⟩ := (hb8.block q7 (blk_lt hL7)).trans hL7
  have hB8 := hb7.trans (hb8.mono hb7.size)
  clear hb8 hRd hb7
  go_wp2_with fail
  refine (with_any 120 _ (by omega) (by omega)).mono ?_
  rintro e w9 ⟨rfl, hb9⟩
  have hL9 : LogAt w9 q7 p ⟨0, 8, aw5.place, aw5.seq, 0, false⟩ := (hb9.block q7 (blk_lt hL8)).trans hL8
  have hB9 := hB8.trans (hb9.mono hB8.size)
  have hus := Used_any q7 (some ⟨p, 0, none⟩) _ w9 hL9
  have hsq := Seq_any q7 (some ⟨p, 0, none⟩) _ w9 hL9
  rw [show ({ base := 0, size := 8, place := aw5.place, seq := aw5.seq, used := 0, broken := false } : LogS).seq = 2 from aw5_ok.2.1] at hsq
  clear hb9 hL7 hL8 hL9 hB8
  go_wp2_with fail
  refine hus.mono ?_
  rintro e w6 ⟨rfl, rfl⟩
  go_wp2_with fail
  refine hsq.mono ?_
  rintro e w6 ⟨rfl, rfl⟩
  go_wp2_with fail
  go_ret
  exact ⟨rfl, hB9⟩

end Go.Proofs.YtbalbjhmboppoaaDoor
