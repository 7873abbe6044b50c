/-
  THE LAYER sector, walked: the disk's calls compute the states of the plain disk.
  No condition.
-/
import Derived.Test.YtbalbjhmboppoaaDoorD1
import Derived.Test.YtbalbjhmboppoaaDoorDisk
import Derived.Deep.RegionHeld3
set_option linter.unusedSimpArgs false
set_option linter.unusedVariables false
namespace Go.Proofs.YtbalbjhmboppoaaDoor
open Go.RowKit

def sv (s : Bs) : Value := .string ⟨s.toArray⟩
def putCells2 (l : List PutM) : List Value := (l.map fun p => [Value.int .i64 p.1, sv p.2]).flatten

/-- A disk lies at block p, its parts in the blocks S. -/
def DiskAt (w : World) (S : List Nat) (p : Nat) (D : DiskS) : Prop :=
  ∃ lb cv, w.heap[p]? = some (.cells #[.slice (some ⟨lb, 0, none⟩) D.lies.length D.lies.length, cv, .bool D.on, .bool D.armed, .int .i64 D.left, .int .i64 D.steps] 74 (0, 0)) ∧
    w.heap[lb]? = some (.cells (D.lies.map sv).toArray 9 (0, 0)) ∧ w.ownsRow 0 40 2 cv D.cache.length (putCells2 D.cache) ∧
    p ∈ S ∧ lb ∈ S ∧ (∀ k, cv.ownBlock = some k → k ∈ S) ∧ (∀ k, k ∈ S → k < w.heap.size)

set_option maxRecDepth 100000 in
theorem sectorNew_any (n : Int) (w : World) (hn : 1 ≤ n) (h1 : n ≤ 65536) :
    Calls Tryd.prog 16 #[.int .i64 n] w fun e w' => ∃ p S, e = .returned (.pointer (some ⟨p, 0, none⟩)) ∧ DiskAt w' S p (DiskS.new n.toNat) ∧ Below w.heap.size w w' ∧ ∀ k, k ∈ S → w.heap.size ≤ k := by
  obtain ⟨k, rfl⟩ : ∃ k : Nat, n = k := ⟨n.toNat, by omega⟩
  have em : min (max (k : Int) 1) 65536 = (k : Int) := by omega
  go_enter Tryd.func16, Tryd.ntmps16
  go_wp2_with fail
  refine (Repeat0_any _ _ (by omega) (by omega)).mono ?_
  rintro e w1 ⟨rfl, hb1⟩
  go_wp2_with fail
  refine (sRepeat_any _ k ⟨(zeros 256).toArray⟩ _ (by omega) (by omega) (by simp)).mono ?_
  rintro e w2 ⟨g, rfl, hg, hlb, hb2⟩
  have hB : Below w.heap.size w w2 := (hb1.alloc hb1.size _).trans (hb2.mono (by have := hb1.size; simp; omega))
  have hsz := hb1.size
  clear em
  go_wp2_with fail
  go_ret
  simp at hg
  have hgl := blk_lt hlb
  refine ⟨w2.heap.size, [w2.heap.size, g], rfl, ⟨g, .slice none 0 0, ?_, ?_, ⟨by simp [putCells2, DiskS.new], .inl ⟨rfl, rfl⟩⟩, by simp, by simp, by simp [Value.ownBlock], ?_⟩, hB.alloc hB.size _, ?_⟩
  · refine (blk_new _ _).trans ?_
    simp [DiskS.new]
  · refine (blk_alloc hlb _).trans ?_
    simp [DiskS.new, sv]
  · intro j hj
    simp at hj
    rcases hj with rfl | rfl <;> simp <;> omega
  · intro j hj
    simp at hj
    have := hB.size
    rcases hj with rfl | rfl <;> omega


theorem info_put : (Tryd.prog.info? 40).map (fun i => (i.zero, i.size, i.bytes)) = some (some (.agg #[.int .i64 0, .string ⟨#[]⟩]), 2, 24) := by kernel_rfl

section
variable {w w' : World} {S : List Nat} {p : Nat} {D D' : DiskS}
/-- What a disk's struct holds. -/
def dcells (D : DiskS) (lb : Nat) (cv : Value) : Array Value := #[.slice (some ⟨lb, 0, none⟩) D.lies.length D.lies.length, cv, .bool D.on, .bool D.armed, .int .i64 D.left, .int .i64 D.steps]
theorem DiskAt.ps (h : DiskAt w S p D) : p ∈ S := by obtain ⟨_, _, _, _, _, h, _⟩ := h; exact h
theorem DiskAt.ltS (h : DiskAt w S p D) : ∀ k, k ∈ S → k < w.heap.size := by obtain ⟨_, _, _, _, _, _, _, _, h⟩ := h; exact h
/-- Nothing of the disk's has turned. -/
theorem DiskAt.upd (h : DiskAt w S p D) {T : List Nat} (hu : Upd T w w') (hn : ∀ k, k ∈ S → k ∉ T) : DiskAt w' S p D := by
  obtain ⟨lb, cv, hp, hl, hc, h1, h2, h3, h4⟩ := h
  exact ⟨lb, cv, hu.get hp (hn _ h1), hu.get hl (hn _ h2), own_upd hc hu (fun k hk => hn _ (h3 k hk)), h1, h2, h3, fun k hk => Nat.lt_of_lt_of_le (h4 k hk) hu.size⟩
theorem DiskAt.below (h : DiskAt w S p D) (hb : Below w.heap.size w w') : DiskAt w' S p D := h.upd (Upd.of_below (S := []) hb) (by simp)
end

theorem Sectors_any {S : List Nat} {p : Nat} {D : DiskS} (w : World) (hD : DiskAt w S p D) (hm : D.lies.length ≤ 65536) :
    Calls Tryd.prog 53 #[.pointer (some ⟨p, 0, none⟩)] w fun e w' => e = .returned (.int .i64 D.sectors) ∧ w = w' := by
  obtain ⟨lb, cv, hp, hl, hc, h1, h2, h3, h4⟩ := hD
  have c0 : w.cell? ⟨p, 0, none⟩ = some (.slice (some ⟨lb, 0, none⟩) D.lies.length D.lies.length) := blk_cell hp 0
  clear hp hl hc h1 h2 h3 h4
  go_enter Tryd.func53, Tryd.ntmps53
  go_wp2_with fail
  go_ret
  exact ⟨rfl, rfl⟩

theorem dOn_any {S : List Nat} {p : Nat} {D : DiskS} (w : World) (hD : DiskAt w S p D) :
    Calls Tryd.prog 32 #[.pointer (some ⟨p, 0, none⟩)] w fun e w' => e = .returned (.bool D.on) ∧ w = w' := by
  obtain ⟨lb, cv, hp, hl, hc, h1, h2, h3, h4⟩ := hD
  have c2 : w.cell? ⟨p, 2, none⟩ = some (.bool D.on) := blk_cell hp 2
  clear hp hl hc h1 h2 h3 h4
  go_enter Tryd.func32, Tryd.ntmps32
  go_wp2_with fail
  go_ret
  exact ⟨rfl, rfl⟩

/-- Of a disk whose struct alone has turned. -/
theorem DiskAt.strct {w w' : World} {S : List Nat} {p lb : Nat} {cv : Value} {D D' : DiskS} (hD : DiskAt w S p D) (hp : w.heap[p]? = some (.cells (dcells D lb cv) 74 (0, 0)))
    (hp' : w'.heap[p]? = some (.cells (dcells D' lb cv) 74 (0, 0))) (hu : Upd [p] w w') (hl : D'.lies = D.lies) (hc : D'.cache = D.cache) : DiskAt w' S p D' := by
  obtain ⟨lb2, cv2, hp2, hl2, hc2, h1, h2, h3, h4⟩ := hD
  have he := hp.symm.trans hp2
  simp [dcells] at he
  obtain ⟨rfl, rfl⟩ := he
  have hne : lb ≠ p := fun e => by subst e; exact ne_of_ty hl2 hp (by decide) rfl
  refine ⟨lb, cv, hp', ?_, ?_, h1, h2, h3, fun k hk => Nat.lt_of_lt_of_le (h4 k hk) hu.size⟩
  · rw [hl]; exact hu.get hl2 (by simpa using hne)
  · rw [hc]
    refine own_upd hc2 hu (fun k hk => ?_)
    obtain ⟨cs, hcs⟩ := own_ty hc2 hk
    have : k ≠ p := fun e => by subst e; exact ne_of_ty hcs hp (by decide) rfl
    simpa using this
theorem DiskAt.get {w : World} {S : List Nat} {p : Nat} {D : DiskS} (hD : DiskAt w S p D) : ∃ lb cv, w.heap[p]? = some (.cells (dcells D lb cv) 74 (0, 0)) := by
  obtain ⟨lb, cv, hp, _⟩ := hD
  exact ⟨lb, cv, hp⟩

theorem dArm_any {S : List Nat} {p : Nat} {D : DiskS} (w : World) (n : Int) (hD : DiskAt w S p D) :
    Calls Tryd.prog 30 #[.pointer (some ⟨p, 0, none⟩), .int .i64 n] w fun e w' => e = .returned (.tuple #[]) ∧ DiskAt w' S p (D.armS n) ∧ Upd [p] w w' := by
  obtain ⟨lb, cv, hp⟩ := hD.get
  have c3 : w.cell? ⟨p, 3, none⟩ = some (.bool D.armed) := blk_cell hp 3
  have c4 : w.cell? ⟨p, 4, none⟩ = some (.int .i64 D.left) := blk_cell hp 4
  have f3 := blk_free hp 3
  have f4 := blk_free hp 4
  have HP := Go.Lib.hid hp
  clear hp
  go_enter Tryd.func30, Tryd.ntmps30
  go_wp2_with fail
  go_end0
  refine ⟨rfl, ?_, ((Upd.refl _ _).set (by simp) _ _).set (by simp) _ _⟩
  refine hD.strct HP.out ?_ (((Upd.refl _ _).set (by simp) _ _).set (by simp) _ _) rfl rfl
  refine (blk_set (blk_set HP.out _ _) _ _).trans ?_
  simp [dcells, DiskS.armS]

set_option maxRecDepth 100000 in
theorem dStep_any {S : List Nat} {p : Nat} {D : DiskS} (w : World) (hD : DiskAt w S p D) (h0 : 0 ≤ D.left) (h1 : D.left ≤ 9223372036854775807) :
    Calls Tryd.prog 85 #[.pointer (some ⟨p, 0, none⟩)] w fun e w' => e = .returned (.int .i64 D.stepS.2) ∧ DiskAt w' S p D.stepS.1 ∧ Upd [p] w w' := by
  obtain ⟨lb, cv, hp⟩ := hD.get
  have c2 : w.cell? ⟨p, 2, none⟩ = some (.bool D.on) := blk_cell hp 2
  have c3 : w.cell? ⟨p, 3, none⟩ = some (.bool D.armed) := blk_cell hp 3
  have c4 : w.cell? ⟨p, 4, none⟩ = some (.int .i64 D.left) := blk_cell hp 4
  have c5 : w.cell? ⟨p, 5, none⟩ = some (.int .i64 D.steps) := blk_cell hp 5
  have f2 := blk_free hp 2
  have f4 := blk_free hp 4
  have f5 := blk_free hp 5
  have HP := Go.Lib.hid hp
  clear hp
  cases hon : D.on
  · have hs : Hid (D.stepS = (D, 14)) := by show _ = _; simp [DiskS.stepS, hon]
    rw [hon] at c2
    have HO := Go.Lib.hid hon
    clear hon
    go_enter Tryd.func85, Tryd.ntmps85
    go_wp2_with fail
    go_ret
    rw [hs.out]
    exact ⟨rfl, hD, Upd.refl _ _⟩
  · rw [hon] at c2
    have HO := Go.Lib.hid hon
    clear hon
    cases har : D.armed
    · have hs : Hid (D.stepS = ({ D with steps := wrap64 (D.steps + 1) }, 0)) := by show _ = _; simp [DiskS.stepS, HO.out, har]
      rw [har] at c3
      have HA := Go.Lib.hid har
      clear har
      go_enter Tryd.func85, Tryd.ntmps85
      go_wp2_with fail
      go_ret
      rw [hs.out]
      refine ⟨rfl, ?_, (Upd.refl _ _).set (by simp) _ _⟩
      refine hD.strct HP.out ?_ ((Upd.refl _ _).set (by simp) _ _) rfl rfl
      refine (blk_set HP.out _ _).trans ?_
      simp [dcells, HO.out, HA.out]
    · rw [har] at c3
      have HA := Go.Lib.hid har
      clear har
      by_cases hz : D.left = 0
      · have hs : Hid (D.stepS = ({ D with on := false }, 14)) := by show _ = _; simp [DiskS.stepS, HO.out, HA.out, hz]
        have hd : (D.left == 0) = true := by simp [hz]
        have HZ := Go.Lib.hid hz
        clear hz
        go_enter Tryd.func85, Tryd.ntmps85
        go_wp2_with fail
        go_ret
        rw [hs.out]
        refine ⟨rfl, ?_, (Upd.refl _ _).set (by simp) _ _⟩
        refine hD.strct HP.out ?_ ((Upd.refl _ _).set (by simp) _ _) rfl rfl
        refine (blk_set HP.out _ _).trans ?_
        simp [dcells, HO.out, HA.out]
      · have hs : Hid (D.stepS = ({ D with left := D.left - 1, steps := wrap64 (D.steps + 1) }, 0)) := by show _ = _; simp [DiskS.stepS, HO.out, HA.out, hz]
        have hd : (D.left == 0) = false := by simp [hz]
        go_enter Tryd.func85, Tryd.ntmps85
        go_wp2_with fail
        go_ret
        rw [hs.out]
        refine ⟨rfl, ?_, ((Upd.refl _ _).set (by simp) _ _).set (by simp) _ _⟩
        refine hD.strct HP.out ?_ (((Upd.refl _ _).set (by simp) _ _).set (by simp) _ _) rfl rfl
        refine (blk_set (blk_set HP.out _ _) _ _).trans ?_
        simp [dcells, HO.out, HA.out]

end Go.Proofs.YtbalbjhmboppoaaDoor
