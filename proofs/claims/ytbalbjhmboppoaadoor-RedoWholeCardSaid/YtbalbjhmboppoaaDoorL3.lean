/-
  slices.IndexFunc and slices.ContainsFunc at the log's wrong; the closure of Commit.
  No condition.
-/
import Derived.Test.YtbalbjhmboppoaaDoorL2
set_option linter.unusedSimpArgs false
set_option linter.unusedVariables false
namespace Go.Proofs.YtbalbjhmboppoaaDoor
open Go.RowKit

set_option maxRecDepth 100000 in
set_option maxHeartbeats 1000000 in
theorem sIndex_any {S : List Nat} {q p : Nat} {L : LogS} {D : DiskS} {v : Value} (w : World) (xs : List PutM) (h : LogAt w q p L) (hD : DiskAt w S p D) (ok : D.Ok) (hb0 : 0 ≤ L.base) (hb1 : L.base ≤ 65536) (hz0 : 0 ≤ L.size) (hz1 : L.size ≤ 65536)
    (hP : PutsR w S v xs) (hxl : xs.length ≤ 1099511627776) (hsz : ∀ x ∈ xs, x.2.length ≤ 1099511627776) :
    Calls Tryd.prog 74 #[v, .func (.func 48) #[.pointer (some ⟨q, 0, none⟩)] #[]] w fun e w' => ∃ k : Int, e = .returned (.int .i64 k) ∧ decide (0 ≤ k) = xs.any (wrongB L D) ∧ k ≤ 1099511627776 ∧ -1 ≤ k ∧ Below w.heap.size w w' := by
  obtain ⟨A, c, rfl, hc, hA⟩ := hP
  have HA := Go.Lib.hid hA
  have HZ := Go.Lib.hid hsz
  have hwr := fun W x (hB : Below w.heap.size w W) hl => wrong_any W x ((hB.block q (blk_lt h)).trans h) (hD.below hB) ok hb0 hb1 hz0 hz1 hl
  have HW := Go.Lib.hid hwr
  clear hA hsz hwr h hD ok
  go_enter Tryd.func74, Tryd.ntmps74
  go_wp2_with fail
  go_loopw [8] (fun iv wr => ∃ i : Nat, i ≤ xs.length ∧ iv = .int .i64 i ∧ (xs.take i).any (wrongB L D) = false ∧ Below w.heap.size w wr) (fun iv _ => xs.length - (intOf iv).toNat)
  case atStart => exact ⟨0, Nat.zero_le _, rfl, rfl, Below.refl _ _⟩
  case round =>
    obtain ⟨i, hi, rfl, hno, hBr⟩ := hrel
    have HNO := Go.Lib.hid hno
    clear hno
    by_cases hlt : i < xs.length
    · obtain ⟨g, cur, rfl, hgS, hg, hcur⟩ := HA.out (by omega)
      have hgl := blk_lt hg
      have hgr := (hBr.block g hgl).trans hg
      obtain ⟨x, hx⟩ : ∃ x, x = xs[i] := ⟨_, rfl⟩
      have q0 : wr.cell? ⟨g, i * 2, none⟩ = some (.int .i64 x.1) := by
        rw [blk_cell hgr, hcur _ (by rw [putCells2_length]; omega), (putCells2_get _ i hlt).1, ← hx]
      have q1 : wr.cell? ⟨g, i * 2 + 1, none⟩ = some (.string ⟨x.2.toArray⟩) := by
        rw [blk_cell hgr, hcur _ (by rw [putCells2_length]; omega), (putCells2_get _ i hlt).2, ← hx]
        rfl
      have hxl2 : x.2.length ≤ 1099511627776 := by have := HZ.out xs[i] (List.getElem_mem _); rw [← hx] at this; exact this
      have hcall := HW.out wr x hBr hxl2
      unfold putV at hcall
      obtain ⟨b, hb⟩ : ∃ b, b = wrongB L D x := ⟨_, rfl⟩
      rw [← hb] at hcall
      have htk : (xs.take (i + 1)).any (wrongB L D) = b := by
        rw [List.take_succ_eq_append_getElem hlt, List.any_append, HNO.out, ← hx]
        simp [hb]
      have htot : b = true → xs.any (wrongB L D) = true := fun e => by
        rw [List.any_eq_true]
        exact ⟨xs[i], List.getElem_mem _, by rw [← hx, ← hb]; exact e⟩
      have HT := Go.Lib.hid htk
      have HTT := Go.Lib.hid htot
      have hz0' := hBr.size
      clear hg hgr hcur hx hb htk htot
      cases b
      · go_wp2_with fail
        refine hcall.mono ?_
        rintro e w2 ⟨rfl, hb2⟩
        have hB2 := hBr.trans (hb2.mono hz0')
        go_wp2_with fail
        go_roundw
        case rel => exact ⟨i + 1, by omega, by go_num, HT.out, hB2⟩
        case measure => simp [intOf]; omega
      · go_wp2_with fail
        refine hcall.mono ?_
        rintro e w2 ⟨rfl, hb2⟩
        have hB2 := hBr.trans (hb2.mono hz0')
        go_wp2_with fail
        go_ret
        exact ⟨i, rfl, by rw [HTT.out (by first | trivial | rfl)]; simp, by omega, by omega, hB2⟩
    · obtain rfl : i = xs.length := by omega
      go_wp2_with fail
      go_ret
      have := HNO.out
      rw [List.take_of_length_le (Nat.le_refl _)] at this
      exact ⟨-1, rfl, by rw [this]; rfl, by omega, by omega, hBr⟩
theorem sContains_any {S : List Nat} {q p : Nat} {L : LogS} {D : DiskS} {v : Value} (w : World) (xs : List PutM) (h : LogAt w q p L) (hD : DiskAt w S p D) (ok : D.Ok) (hb0 : 0 ≤ L.base) (hb1 : L.base ≤ 65536) (hz0 : 0 ≤ L.size) (hz1 : L.size ≤ 65536)
    (hP : PutsR w S v xs) (hxl : xs.length ≤ 1099511627776) (hsz : ∀ x ∈ xs, x.2.length ≤ 1099511627776) :
    Calls Tryd.prog 49 #[v, .func (.func 48) #[.pointer (some ⟨q, 0, none⟩)] #[]] w fun e w' => e = .returned (.bool (xs.any (wrongB L D))) ∧ Below w.heap.size w w' := by
  have hI := sIndex_any w xs h hD ok hb0 hb1 hz0 hz1 hP hxl hsz
  clear h hD ok hP hsz
  go_enter Tryd.func49, Tryd.ntmps49
  go_wp2_with fail
  refine hI.mono ?_
  rintro e w2 ⟨k, rfl, hk, h1, h2, hb2⟩
  have HK := Go.Lib.hid hk
  clear hk
  go_wp2_with fail
  go_ret
  exact ⟨ret_bool HK.out, hb2⟩

theorem below_drew1 (w : World) (a : Obj) : Below w.heap.size w (w.alloc a).drew := below_drewN1 w a 1
/-- Commit's closure: a slot's write. -/
def slotAt (L : LogS) (i : Int) : Int := L.base + 1 + (L.place + i).tmod (L.size - 1)
set_option maxRecDepth 100000 in
set_option maxHeartbeats 1000000 in
theorem Commit1_any {q p : Nat} {L : LogS} (B : Nat) (i : Int) (s : ByteArray) (w : World) (h : LogAt w q p L) (hB : w.heap[B]? = some (.cells #[.pointer (some ⟨q, 0, none⟩)] 33 (0, 0))) (hb0 : 0 ≤ L.base) (hb1 : L.base ≤ 65536) (hz0 : 4 ≤ L.size) (hz1 : L.size ≤ 65536)
    (hp0 : 0 ≤ L.place) (hp1 : L.place ≤ 65536) (hi0 : 0 ≤ i) (hi1 : i ≤ 65536) :
    Calls Tryd.prog 50 #[.int .i64 i, .string s, .pointer (some ⟨B, 0, none⟩)] w fun e w' => e = .returned (.agg #[.int .i64 (slotAt L i), .string s]) ∧ Below w.heap.size w w' := by
  have cB : w.cell? ⟨B, 0, none⟩ = some (.pointer (some ⟨q, 0, none⟩)) := blk_cell hB 0
  have c1 : w.cell? ⟨q, 1, none⟩ = some (.int .i64 L.base) := blk_cell h 1
  have c3 : w.cell? ⟨q, 3, none⟩ = some (.int .i64 L.place) := blk_cell h 3
  have hqz := blk_lt h
  have hBz := blk_lt hB
  have hsl := fun W (hw : Below w.heap.size w W) => slots_any W ((hw.block q hqz).trans h) (by omega) hz1
  have HS := Go.Lib.hid hsl
  obtain ⟨m, hm⟩ : ∃ m, (L.place + i) % (L.size - 1) = m := ⟨_, rfl⟩
  have hm0 : 0 ≤ m := by rw [← hm]; exact Int.emod_nonneg _ (by omega)
  have hm1 : m < 65536 := by rw [← hm]; have := Int.emod_lt_of_pos (L.place + i) (b := L.size - 1) (by omega); omega
  have HV : Hid (slotAt L i = L.base + 1 + m) := by show _ = _; rw [← hm]; unfold slotAt; rw [Int.tmod_eq_emod_of_nonneg (by omega)]
  have hwr : IntKind.i64.wrap (L.base + 1 + m) = L.base + 1 + m := by rw [IntKind.wrap_i64]; omega
  have hwr2 : IntKind.i64.wrap (L.place + i) = L.place + i := by rw [IntKind.wrap_i64]; omega
  have hwr3 : IntKind.i64.wrap (L.base + 1) = L.base + 1 := by rw [IntKind.wrap_i64]; omega
  have hwm : IntKind.i64.wrap m = m := by rw [IntKind.wrap_i64]; omega
  have htm : (L.place + i).tmod (L.size - 1) = m := by rw [Int.tmod_eq_emod_of_nonneg (by omega)]; exact hm
  have hnz : (L.size - 1 == 0) = false := by simp; omega
  have hnz2 : ¬ (L.size - 1 = 0) := by omega
  clear hsl h hB
  go_enter Tryd.func50, Tryd.ntmps50
  have hne1 := World.new_ne w ⟨B, 0, none⟩ cB
  have hne2 := World.new_ne w ⟨q, 1, none⟩ c1
  have hne3 := World.new_ne w ⟨q, 3, none⟩ c3
  go_wp2_with fail
  go_region_held3 (fun w' => w'.cell? ⟨B, 0, none⟩ = some (.pointer (some ⟨q, 0, none⟩)) ∧ w'.cell? ⟨q, 1, none⟩ = some (.int .i64 L.base) ∧ w'.cell? ⟨q, 3, none⟩ = some (.int .i64 L.place)) (go_keep) (first | (go_at_call 47; refine (HS.out _ (below_drew1 _ _)).mono ?_; rintro e w' ⟨rfl, rfl⟩))
  go_wp2_with fail
  refine bodyPost_ret (v := .agg #[.int .i64 (L.base + 1 + m), .string s]) ?_ rfl ?_
  · have k0 : ((w.alloc (.cells #[.int .i64 (L.base + 1 + m), .string s] 40)).drew).cell? ⟨w.heap.size, 0, none⟩ = some (.int .i64 (L.base + 1 + m)) := blk_cell (blk_new w _) 0
    have k1 : ((w.alloc (.cells #[.int .i64 (L.base + 1 + m), .string s] 40)).drew).cell? ⟨w.heap.size, 1, none⟩ = some (.string s) := blk_cell (blk_new w _) 1
    simp [results, Tryd.f50, go_sem, k0, k1]
  · rw [HV.out]
    exact ⟨rfl, below_drew1 _ _⟩

end Go.Proofs.YtbalbjhmboppoaaDoor
