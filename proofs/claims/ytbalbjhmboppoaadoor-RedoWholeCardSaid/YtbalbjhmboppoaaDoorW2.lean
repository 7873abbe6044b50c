/-
  redo.Format.
  The disk's cache holds fewer than 2^39 writes.
-/
import Derived.Test.YtbalbjhmboppoaaDoorS6
set_option linter.unusedSimpArgs false
set_option linter.unusedVariables false
namespace Go.Proofs.YtbalbjhmboppoaaDoor
open Go.RowKit

def formatS (D : DiskS) (base size : Int) : DiskS × Int :=
  if fitsB D base size = true then D.writeF true [(base, headB 0 1), (base + 1, zeros 256)] else (D, 1)
theorem fillB_len (s : Bs) : (fillB s).length ≤ 256 := by
  unfold fillB
  split
  · rename_i h; simp [fits5] at h; simp [zeros]; omega
  · simp
theorem headB_len (a b : Int) : (headB a b).length ≤ 256 := fillB_len _
theorem lastB_len (a b : Int) : (lastB a b).length ≤ 256 := fillB_len _
theorem firstB_len (a : Int) (b : List Int) : (firstB a b).length ≤ 256 := fillB_len _

/-- A row of writes that was just built. -/
theorem PutsR.fresh {w : World} {S : List Nat} (xs : List PutM) (h : ∀ k, k ∈ S → k < w.heap.size) (hn : 0 < xs.length) : PutsR (w.alloc (.cells (putCells2 xs).toArray 40)) S (.slice (some ⟨w.heap.size, 0, none⟩) xs.length xs.length) xs :=
  ⟨_, _, rfl, Nat.le_refl _, fun _ => ⟨w.heap.size, _, rfl, fun hm => by have := h _ hm; omega, blk_new w _, fun j hj => by simp⟩⟩

theorem DRet.from {S : List Nat} {p : Nat} {D : DiskS} {v : Value} {e : Ending} {w w1 w' : World} (h : DRet w1 S p D v e w') (hu : Upd S w w1) : DRet w S p D v e w' := by
  obtain ⟨S', h1, h2, h3, h4⟩ := h
  exact ⟨S', h1, h2, hu.trans h3 (fun k hk => .inl hk), fun k hk => by
    rcases h4 k hk with h | h
    · exact .inl h
    · have := hu.size; exact .inr (by omega)⟩
/-- redo.write of a row that was just built. -/
theorem write_new {S : List Nat} {p : Nat} {D : DiskS} (w : World) (fl : Bool) (xs : List PutM) (cs : Array Value) (n : Nat) (hc : (putCells2 xs).toArray = cs) (hn : n = xs.length) (hn0 : 0 < n) (hD : DiskAt w S p D) (ok : D.Ok)
    (hr : D.cache.length + xs.length ≤ 1099511627776) (hsz : ∀ x ∈ xs, x.2.length ≤ 1099511627776) :
    Calls Tryd.prog 41 #[.pointer (some ⟨p, 0, none⟩), .bool fl, .slice (some ⟨w.heap.size, 0, none⟩) n n] (w.alloc (.cells cs 40)) fun e w' => DRet w S p (D.writeF fl xs).1 (.int .i64 (D.writeF fl xs).2) e w' := by
  subst hc hn
  have hA := (Upd.refl [] w).alloc (.cells (putCells2 xs).toArray 40)
  refine (write_any _ fl xs (hD.upd hA (by simp)) ok (PutsR.fresh xs hD.ltS hn0) hr hsz).mono fun e w' h => h.from (hA.mono (by simp))
theorem fitsB_iff {D : DiskS} {b s : Int} : fitsB D b s = true ↔ 0 ≤ b ∧ 4 ≤ s ∧ s ≤ 65536 ∧ b ≤ D.sectors - s := by
  unfold fitsB
  simp only [Bool.and_eq_true, decide_eq_true_eq]
  omega

set_option maxRecDepth 100000 in
set_option maxHeartbeats 1000000 in
theorem Format_any {S : List Nat} {p : Nat} {D : DiskS} (w : World) (base size : Int) (hD : DiskAt w S p D) (ok : D.Ok) (hr : D.cache.length ≤ 549755813888) (hT : Tab w) (h0 : (0 : Nat) ∉ S) :
    Calls Tryd.prog 17 #[.pointer (some ⟨p, 0, none⟩), .int .i64 base, .int .i64 size] w fun e w' => DRet w S p (formatS D base size).1 (.int .i64 (formatS D base size).2) e w' := by
  have hfit := fits_any w base size hD ok
  obtain ⟨b, hb⟩ : ∃ b, b = fitsB D base size := ⟨_, rfl⟩
  rw [← hb] at hfit
  have HB := Go.Lib.hid hb
  have HT := Go.Lib.hid hT
  clear hb hT
  have hpz := hD.ltS p hD.ps
  cases b
  · go_enter Tryd.func17, Tryd.ntmps17
    go_wp2_with fail
    refine hfit.mono ?_
    rintro e w1 ⟨rfl, rfl⟩
    go_wp2_with fail
    go_ret
    have : formatS D base size = (D, 1) := by unfold formatS; rw [← HB.out]; rfl
    rw [this]
    exact ⟨S, rfl, hD, Upd.refl _ _, Sub.refl _ _⟩
  · have hbase : 0 ≤ base ∧ base ≤ 65536 := by
      have h := fitsB_iff.1 HB.out.symm
      have := ok.most
      simp only [DiskS.sectors] at h
      omega
    obtain ⟨hb0, hb1⟩ := hbase
    go_enter Tryd.func17, Tryd.ntmps17
    go_wp2_with fail
    refine hfit.mono ?_
    rintro e w1 ⟨rfl, rfl⟩
    go_wp2_with fail
    refine (Head_any _ _ _ HT.out).mono ?_
    rintro e w1 ⟨rfl, hw1⟩
    go_wp2_with fail
    refine (blank_any _).mono ?_
    rintro e w2 ⟨rfl, hw2⟩
    have hB := hw1.trans (hw2.mono hw1.size)
    have hsz : ∀ x ∈ [(base, headB 0 1), (base + 1, zeros 256)], x.2.length ≤ 1099511627776 := by
      intro x hx
      simp only [List.mem_cons, List.not_mem_nil, or_false] at hx
      rcases hx with rfl | rfl
      · have := headB_len 0 1; dsimp only; omega
      · simp [zeros]
    go_wp2_with fail
    refine (write_new w2 true [(base, headB 0 1), (base + 1, zeros 256)] _ 2 rfl rfl (by omega) (hD.upd (Upd.of_below (S := []) hB) (by simp)) ok (by simp; omega) hsz).mono ?_
    intro e w3 hret
    have hret2 := hret.from (Upd.of_below hB)
    clear hret hsz
    obtain ⟨S', rfl, hD3, hU3, hS3⟩ := hret2
    go_wp2_with fail
    go_ret
    have : formatS D base size = D.writeF true [(base, headB 0 1), (base + 1, zeros 256)] := by unfold formatS; rw [if_pos HB.out.symm]
    rw [this]
    exact ⟨S', rfl, hD3, hU3, hS3⟩

end Go.Proofs.YtbalbjhmboppoaaDoor
