/-
  redo.Open.
  The disk's cache holds fewer than 2^39 writes; the table of check lies where it lies.
-/
import Derived.Test.YtbalbjhmboppoaaDoorW2
set_option linter.unusedSimpArgs false
set_option linter.unusedVariables false
namespace Go.Proofs.YtbalbjhmboppoaaDoor
open Go.RowKit

structure OpenRes where
  disk : DiskS
  err : Int
  place : Nat
  seq : Int
def readR (D : DiskS) (base : Int) (n : Nat) : List Bs := (List.range n).map fun i : Nat => (D.readS (base + i)).1
/-- What was committed is done. -/
def redoS (D : DiskS) (base : Int) (s : ScanR) : DiskS × Int :=
  if s.all = [] then (D, 0)
  else if (D.writeF true s.all.flatten).2 = 0 then (D.writeF true s.all.flatten).1.writeF false [(base, headB s.place s.seq)] else D.writeF true s.all.flatten
def openL (D : DiskS) (base : Int) (s : ScanR) : OpenRes :=
  if (redoS D base s).2 ≠ 0 then ⟨(redoS D base s).1, (redoS D base s).2, 0, 0⟩
  else if ((redoS D base s).1.writeF true [(base + 1 + s.place, zeros 256)]).2 ≠ 0 then ⟨((redoS D base s).1.writeF true [(base + 1 + s.place, zeros 256)]).1, ((redoS D base s).1.writeF true [(base + 1 + s.place, zeros 256)]).2, 0, 0⟩
  else ⟨((redoS D base s).1.writeF true [(base + 1 + s.place, zeros 256)]).1, 0, s.place, s.seq⟩
def openS (D : DiskS) (base size : Int) : OpenRes :=
  if fitsB D base size = false then ⟨D, 1, 0, 0⟩
  else if D.on = false then ⟨D, 14, 0, 0⟩
  else if (scanS (readR D base size.toNat)).is = false then ⟨D, 10, 0, 0⟩
  else openL D base (scanS (readR D base size.toNat))

structure LogS where
  base : Int
  size : Int
  place : Int
  seq : Int
  used : Int
  broken : Bool
def lcells (p : Nat) (L : LogS) : Array Value := #[.pointer (some ⟨p, 0, none⟩), .int .i64 L.base, .int .i64 L.size, .int .i64 L.place, .int .i64 L.seq, .int .i64 L.used, .bool L.broken]
def LogAt (w : World) (q p : Nat) (L : LogS) : Prop := w.heap[q]? = some (.cells (lcells p L) 48 (0, 0))
def OpenRet (w : World) (S : List Nat) (p : Nat) (base size : Int) (r : OpenRes) (e : Ending) (w' : World) : Prop :=
  ∃ S', DiskAt w' S' p r.disk ∧ Upd S w w' ∧ Sub S S' w ∧ ((r.err ≠ 0 ∧ e = .returned (.tuple #[.pointer none, .int .i64 r.err])) ∨
    (r.err = 0 ∧ ∃ q, e = .returned (.tuple #[.pointer (some ⟨q, 0, none⟩), .int .i64 0]) ∧ LogAt w' q p ⟨base, size, r.place, r.seq, 0, false⟩ ∧ w.heap.size ≤ q ∧ q ∉ S'))

/-! ### what a scan finds, in numbers -/
theorem atB_len {L : List Bs} (h : ∀ s ∈ L, s.length ≤ 256) (i : Int) : (atB L i).length ≤ 256 := by
  unfold atB List.getD
  cases hh : L[i.toNat % L.length]? with
  | none => simp
  | some s => exact h s (List.mem_of_getElem? hh)
theorem foundS_strs {L : List Bs} (h : ∀ s ∈ L, s.length ≤ 256) (place seq : Int) : ∀ x ∈ foundS L place seq, x.2.length ≤ 256 := by
  intro x hx
  unfold foundS at hx
  split at hx
  · cases hx
  · dsimp only at hx
    split at hx
    · cases hx
    · split at hx
      · cases hx
      · simp only [putsOf, List.mem_map] at hx
        obtain ⟨i, _, rfl⟩ := hx
        exact atB_len h _
theorem scanGo_facts (L : List Bs) (hL : 0 < L.length) (h : ∀ s ∈ L, s.length ≤ 256) : ∀ (f place : Nat) (seq : Int) (used : Nat), place < L.length → used ≤ L.length →
    (scanGo L f place seq used).1 < L.length ∧ (∀ xs ∈ (scanGo L f place seq used).2.2, xs ≠ []) ∧ used + (scanGo L f place seq used).2.2.flatten.length ≤ L.length ∧
    (∀ x ∈ (scanGo L f place seq used).2.2.flatten, x.2.length ≤ 256)
  | 0, place, seq, used, hp, hu => by simp [scanGo, hp, hu]
  | f + 1, place, seq, used, hp, hu => by
    unfold scanGo
    split
    · simp [hp, hu]
    · rename_i hs
      have h1 : (foundS L place seq).length ≠ 0 := fun e => hs (.inl e)
      have h2 : ¬ L.length < used + ((foundS L place seq).length + 2) := fun e => hs (.inr e)
      obtain ⟨r1, r2, r3, r4⟩ := scanGo_facts L hL h f ((place + (foundS L place seq).length + 2) % L.length) (seq + 1) (used + ((foundS L place seq).length + 2)) (Nat.mod_lt _ hL) (by omega)
      refine ⟨r1, ?_, ?_, ?_⟩
      · intro xs hxs
        rcases List.mem_cons.1 hxs with rfl | hxs
        · intro e; rw [e] at h1; exact h1 rfl
        · exact r2 xs hxs
      · simp only [List.flatten_cons, List.length_append]; omega
      · intro x hx
        simp only [List.flatten_cons, List.mem_append] at hx
        rcases hx with hx | hx
        · exact foundS_strs h _ _ x hx
        · exact r4 x hx
theorem scanS_facts (R : List Bs) (h : ∀ s ∈ R, s.length ≤ 256) : (scanS R).place < R.length + 1 ∧ (∀ xs ∈ (scanS R).all, xs ≠ []) ∧ (scanS R).all.flatten.length ≤ R.length ∧ ∀ x ∈ (scanS R).all.flatten, x.2.length ≤ 256 := by
  unfold scanS
  split
  · simp
  · rename_i h4
    split
    · simp
    · dsimp only
      split
      · simp
      · rename_i r hr hbad
        have ht : ∀ s ∈ R.tail, s.length ≤ 256 := fun s hs => h s (List.mem_of_mem_tail hs)
        have hl : R.tail.length = R.length - 1 := List.length_tail
        obtain ⟨r1, r2, r3, r4⟩ := scanGo_facts R.tail (by omega) ht (R.tail.length + 1) (numS ⟨r, false⟩ 65535).2 (numS (numS ⟨r, false⟩ 65535).1 549755813888).2 0 (by
          rcases Nat.lt_or_ge (numS ⟨r, false⟩ 65535).2 R.tail.length with h | h
          · exact h
          · exact absurd (.inr (.inl h)) hbad) (by omega)
        refine ⟨?_, r2, ?_, r4⟩
        · dsimp only; omega
        · dsimp only; omega
theorem DiskS.Ok.read {D : DiskS} (h : D.Ok) (a : Int) : (D.readS a).1.length ≤ 256 := by
  unfold DiskS.readS
  split
  · simp
  · split
    · simp
    · dsimp only
      split
      · rename_i s hs
        unfold DiskS.lookup at hs
        simp only [Option.map_eq_some_iff] at hs
        obtain ⟨p, hp, rfl⟩ := hs
        have := List.mem_of_find?_eq_some hp
        have := (h.cache p (by simpa using this)).2.2
        omega
      · unfold List.getD
        cases hh : D.lies[a.toNat]? with
        | none => simp
        | some s => have := h.size s (List.mem_of_getElem? hh); simp; omega
theorem readR_len (D : DiskS) (base : Int) (n : Nat) : (readR D base n).length = n := by simp [readR]
theorem readR_strs {D : DiskS} (h : D.Ok) (base : Int) (n : Nat) : ∀ s ∈ readR D base n, s.length ≤ 256 := by
  intro s hs
  simp only [readR, List.mem_map] at hs
  obtain ⟨i, _, rfl⟩ := hs
  exact h.read _
theorem readR_take (D : DiskS) (base : Int) (n i : Nat) (h : i < n) : (readR D base n).take (i + 1) = (readR D base n).take i ++ [(D.readS (base + i)).1] := by
  rw [List.take_succ_eq_append_getElem (by rw [readR_len]; exact h)]
  simp [readR]

end Go.Proofs.YtbalbjhmboppoaaDoor
