/-
  GENERAL LEMMAS OF THIS CLAIM, of no program: blocks of the heap, a frame relation over a set of blocks, endings of walks, lists of bytes as values.
  No condition.
-/
import Derived.WalkKit
import Derived.Lib.Hide
import Derived.ArgAppend
namespace Go.Proofs.YtbalbjhmboppoaaDoor
open Go.RowKit

/-! ### endings -/
theorem ret_int {k : IntKind} {a b : Int} (h : a = b) : Ending.returned (.int k a) = .returned (.int k b) := by rw [h]
theorem ret_str {a b : ByteArray} (h : a = b) : Ending.returned (.string a) = .returned (.string b) := by rw [h]
theorem ret_bool {a b : Bool} (h : a = b) : Ending.returned (.bool a) = .returned (.bool b) := by rw [h]

/-! ### blocks -/
section
variable {w : World} {b : Nat} {cs : Array Value} {t : TypeId} {fr : Nat × Nat} {ob : Obj}
theorem blk_lt (h : w.heap[b]? = some ob) : b < w.heap.size := (Array.getElem?_eq_some_iff.1 h).1
theorem blk_cell (h : w.heap[b]? = some (.cells cs t fr)) (o : Nat) : w.cell? ⟨b, o, none⟩ = cs[o]? := by simp [World.cell?, h]
theorem blk_free (h : w.heap[b]? = some (.cells cs t (0, 0))) (o : Nat) : w.frozen? ⟨b, o, none⟩ = false := by simp [World.frozen?, h]
theorem blk_set (h : w.heap[b]? = some (.cells cs t fr)) (o : Nat) (v : Value) :
    (w.setCell ⟨b, o, none⟩ v).heap[b]? = some (.cells (cs.setIfInBounds o v) t fr) := by
  have hlt := blk_lt h
  have h' : w.heap[b] = .cells cs t fr := by simpa [Array.getElem?_eq_getElem hlt] using h
  show (w.heap.modify b _)[b]? = _
  rw [Array.getElem?_eq_getElem (by simpa using hlt), Array.getElem_modify_self, h']
  simp
theorem blk_far {b' : Nat} (hne : b ≠ b') (o : Nat) (v : Value) : (w.setCell ⟨b', o, none⟩ v).heap[b]? = w.heap[b]? := Below.heap_setCell _ _ _ _ hne
theorem blk_alloc (h : w.heap[b]? = some ob) (o : Obj) : (w.alloc o).heap[b]? = some ob := (Below.heap_alloc w o b (blk_lt h)).trans h
theorem blk_new (w : World) (o : Obj) : (w.alloc o).heap[w.heap.size]? = some o := heap_alloc_new w o
theorem blk_drew : w.drew.heap = w.heap := rfl
end

/-! ### the frame: of what was there only the blocks of S may have changed -/
structure Upd (S : List Nat) (w w' : World) : Prop where
  os : w'.os = w.os
  tape : w'.tape = w.tape
  output : w'.output = w.output
  size : w.heap.size ≤ w'.heap.size
  block : ∀ k, k < w.heap.size → k ∉ S → w'.heap[k]? = w.heap[k]?

namespace Upd
variable {S S' : List Nat} {w w1 w2 : World}
theorem refl (S : List Nat) (w : World) : Upd S w w := ⟨rfl, rfl, rfl, Nat.le_refl _, fun _ _ _ => rfl⟩
theorem mono (h : Upd S w w1) (hs : ∀ k, k ∈ S → k ∈ S') : Upd S' w w1 := ⟨h.os, h.tape, h.output, h.size, fun k hk hn => h.block k hk (fun hm => hn (hs k hm))⟩
/-- Two steps: what the second may change is what the first may, or new. -/
theorem trans (h : Upd S w w1) (h' : Upd S' w1 w2) (hs : ∀ k, k ∈ S' → k ∈ S ∨ w.heap.size ≤ k) : Upd S w w2 :=
  ⟨h'.os.trans h.os, h'.tape.trans h.tape, h'.output.trans h.output, Nat.le_trans h.size h'.size, fun k hk hn =>
    (h'.block k (Nat.lt_of_lt_of_le hk h.size) (fun hm => by rcases hs k hm with h1 | h1; exact hn h1; omega)).trans (h.block k hk hn)⟩
theorem of_below (h : Below w.heap.size w w1) : Upd S w w1 := ⟨h.os, h.tape, h.output, h.size, fun k hk _ => h.block k hk⟩
theorem below (h : Upd S w w1) {B : Nat} (hB : B ≤ w.heap.size) (hs : ∀ k, k ∈ S → B ≤ k) : Below B w w1 :=
  ⟨h.os, h.tape, h.output, h.size, fun k hk => h.block k (by omega) (fun hm => by have := hs k hm; omega)⟩
theorem alloc (h : Upd S w w1) (o : Obj) : Upd S w (w1.alloc o) :=
  h.trans (of_below (S := []) ((Below.refl _ _).alloc (Nat.le_refl _) _)) (by simp)
theorem drew (h : Upd S w w1) : Upd S w w1.drew := ⟨h.os, h.tape, h.output, h.size, h.block⟩
theorem set (h : Upd S w w1) {b : Nat} (hb : b ∈ S ∨ w.heap.size ≤ b) (o : Nat) (v : Value) : Upd S w (w1.setCell ⟨b, o, none⟩ v) :=
  h.trans (S' := [b]) ⟨rfl, rfl, rfl, by simp, fun k _ hn => blk_far (by simpa using hn) _ _⟩ (by simpa using hb)
theorem get (h : Upd S w w1) {b : Nat} {ob : Obj} (hb : w.heap[b]? = some ob) (hn : b ∉ S) : w1.heap[b]? = some ob := (h.block b (blk_lt hb) hn).trans hb
theorem nil (h : Upd [] w w1) : Below w.heap.size w w1 := h.below (Nat.le_refl _) (by simp)
end Upd

/-! ### rows that the call owns -/
section
variable {w w' : World} {base : Nat} {e : TypeId} {size n : Nat} {v : Value} {xs : List Value}
theorem own_same (h : w.ownsRow base e size v n xs) (hk : ∀ k, v.ownBlock = some k → w'.heap[k]? = w.heap[k]?) : w'.ownsRow base e size v n xs := by
  refine ⟨h.1, ?_⟩
  rcases h.2 with h2 | ⟨g, cap, cur, rfl, hg, hh, r⟩
  · exact .inl h2
  · exact .inr ⟨g, cap, cur, rfl, hg, (hk g rfl).trans hh, r⟩
theorem own_upd {S : List Nat} (h : w.ownsRow base e size v n xs) (hu : Upd S w w') (hn : ∀ k, v.ownBlock = some k → k ∉ S) : w'.ownsRow base e size v n xs :=
  own_same h fun k hk => hu.block k (h.lt k hk).2 (hn k hk)
theorem own_ty (h : w.ownsRow base e size v n xs) {k : Nat} (hk : v.ownBlock = some k) : ∃ cs, w.heap[k]? = some (.cells cs e (0, 0)) := by
  rcases h.2 with ⟨rfl, _⟩ | ⟨g, cap, cur, rfl, hg, hh, _⟩
  · simp [Value.ownBlock] at hk
  · simp [Value.ownBlock] at hk
    subst hk
    exact ⟨cur, hh⟩
theorem own_base {b' : Nat} (h : w.ownsRow base e size v n xs) (hk : ∀ k, v.ownBlock = some k → b' ≤ k) : w.ownsRow b' e size v n xs := by
  refine ⟨h.1, ?_⟩
  rcases h.2 with h2 | ⟨g, cap, cur, rfl, hg, r⟩
  · exact .inl h2
  · exact .inr ⟨g, cap, cur, rfl, hk g rfl, r⟩
end
/-- A slice's block, as a list. -/
def blk1 (v : Value) : List Nat := match v.ownBlock with | some k => [k] | none => []
theorem mem_blk1 {v : Value} {k : Nat} : k ∈ blk1 v ↔ v.ownBlock = some k := by
  unfold blk1
  split
  · rename_i h; simp [h]; exact eq_comm
  · rename_i h; simp [h]
theorem own_slice {w : World} {base n : Nat} {e : TypeId} {size : Nat} {v : Value} {xs : List Value} (h : w.ownsRow base e size v n xs) : ∃ A c, v = .slice A n c := by
  rcases h.2 with ⟨rfl, rfl⟩ | ⟨g, cap, cur, rfl, _⟩
  · exact ⟨none, 0, rfl⟩
  · exact ⟨_, cap, rfl⟩
theorem own_head {w : World} {base n c : Nat} {e : TypeId} {size : Nat} {A : Option Addr} {xs : List Value} (h : w.ownsRow base e size (.slice A n c) n xs) (hn : 0 < n) :
    ∃ g cur, A = some ⟨g, 0, none⟩ ∧ w.heap[g]? = some (.cells cur e (0, 0)) ∧ ∀ j, j < xs.length → cur[j]? = xs[j]? := by
  rcases h.2 with ⟨h1, rfl⟩ | ⟨g, cap, cur, h1, hb, hh, _, _, hcs, htake⟩
  · omega
  · injection h1 with h1 _ h2
    refine ⟨g, cur, h1, hh, fun j hj => ?_⟩
    have e1 : xs[j]? = (cur.toList.take (n * size))[j]? := by rw [htake]
    have e2 : j < n * size := by rw [← h.1]; exact hj
    rw [e1, List.getElem?_take, if_pos e2]
    simp
theorem ne_of_ty {w : World} {a b : Nat} {c1 c2 : Array Value} {t1 t2 : TypeId} {f1 f2 : Nat × Nat} (h1 : w.heap[a]? = some (.cells c1 t1 f1)) (h2 : w.heap[b]? = some (.cells c2 t2 f2)) (ht : t1 ≠ t2) : a ≠ b := by
  rintro rfl
  rw [h1] at h2
  injection h2 with h2
  injection h2 with _ h2
  exact ht h2
theorem upd_of_grown {w w' : World} {row : Option Nat} {S : List Nat} (h : w.grownBy w' row) (hr : ∀ k, row = some k → k ∈ S) : Upd S w w' :=
  ⟨h.os, h.tape, h.output, h.size, fun k hk hn => h.block k hk (fun e => hn (hr k e.symm))⟩

section
variable {P : Program}
/-- append to a row that the call owns: what is owned then lies where it lay, or in a new block. -/
theorem run_append_S (w : World) (base : Nat) (t ty e : TypeId) (i : TypeInfo) (z : Value) (size bytes : Nat) (ht : P.underlying t = some (.slice e)) (hi : P.info? e = some i) (hz : i.zero = some z)
    (hsize : i.size = size) (hby : i.bytes = bytes) (hzs : z.cells.size = size) (hsz : 0 < size)
    (v : Value) (n : Nat) (xs : List Value) (hown : w.ownsRow base e size v n xs)
    (a : Addr) (m c : Nat) (news : List Value) (hl : news.length = m * size) (hnews : ∀ j u, news[j]? = some u → w.cell? (a.add j) = some u) (h1 : ∀ u ∈ news, u.oneCell' = true)
    (h63 : n + m ≤ maxLen) (hbytes : (n + m) * bytes ≤ 140737488355328) (hbase : base ≤ w.heap.size) :
    ∃ v' w', (Builtin.append_ #[t, t] ty #[v, .slice (some a) m c]).run P w = .ok v' w' ∧ w'.ownsRow base e size v' (n + m) (xs ++ news) ∧ w.grownBy w' v.ownBlock ∧
      (∀ k, v'.ownBlock = some k → v.ownBlock = some k ∨ w.heap.size ≤ k) := by
  obtain ⟨v', w', hr, h2, h3, _⟩ := run_append_own (P := P) w base t ty e i z size bytes ht hi hz hsize hby hzs hsz v n xs hown a m c news hl hnews h1 h63 hbytes hbase
  refine ⟨v', w', hr, h2, h3, fun k hk => ?_⟩
  rcases hown.2 with ⟨rfl, rfl⟩ | ⟨g, cap, cur, rfl, hg, hh, hnc, hcm, hcs, htake⟩
  · obtain rfl : xs = [] := List.eq_nil_of_length_eq_zero (by simpa using hown.1)
    obtain ⟨v2, w2, hr2, q2, _, _⟩ := run_append_own (P := P) w w.heap.size t ty e i z size bytes ht hi hz hsize hby hzs hsz (.slice none 0 0) 0 [] (World.ownsRow_nil w _ e size) a m c news hl hnews h1 h63 hbytes (Nat.le_refl _)
    rw [hr] at hr2
    injection hr2 with e1 e2
    subst e1
    exact .inr (q2.lt k hk).1
  · by_cases hroom : n + m ≤ cap
    · have hfit : n * i.size + news.length ≤ cur.size := by rw [hl, hcs, hsize, ← Nat.add_mul]; exact Nat.mul_le_mul_right _ hroom
      have hr2 := run_append_room (P := P) w t ty e i ht hi g n cap cur hh a m c news (by rw [hsize]; exact hl) hnews h1 hroom hfit
      rw [hr] at hr2
      injection hr2 with e1 e2
      subst e1
      exact .inl hk
    · obtain ⟨v2, w2, hr2, q2, _⟩ := run_append_arg_grows (P := P) w t ty e i z size bytes ht hi hz hsize hby hzs hsz ⟨g, 0, none⟩ n cap xs hown.1 (hown.cells (g := g) rfl) a m c news hl hnews (by omega) h63 hbytes
      rw [hr] at hr2
      injection hr2 with e1 e2
      subst e1
      exact .inr (q2.lt k hk).1

theorem wpList_append_S {w : World} {ops : Array Oper} {rest : List Oper} {o : Oper} {a : Act} {Q : Exit → Act → World → Prop} (hgd : o.guard = none) (s x : Operand) (t : TypeId)
    (ho : o.op = .call { callee := .builtin .append, args := #[s, x], argTypes := #[t, t] })
    (base : Nat) (e : TypeId) (z : Value) (size bytes : Nat) (ht : P.underlying t = some (.slice e)) (hinfo : (P.info? e).map (fun i => (i.zero, i.size, i.bytes)) = some (some z, size, bytes))
    (hzs : z.cells.size = size) (hsz : 0 < size)
    (v : Value) (n : Nat) (xs : List Value) (hs : a.eval s = v) (hown : w.ownsRow base e size v n xs)
    (ad : Addr) (m c : Nat) (news : List Value) (hx : a.eval x = .slice (some ad) m c) (hl : news.length = m * size) (hnews : ∀ j u, news[j]? = some u → w.cell? (ad.add j) = some u) (h1 : ∀ u ∈ news, u.oneCell' = true)
    (h63 : n + m ≤ maxLen) (hbytes : (n + m) * bytes ≤ 140737488355328) (hbase : base ≤ w.heap.size)
    (h : ∀ v' w', w'.ownsRow base e size v' (n + m) (xs ++ news) → w.grownBy w' v.ownBlock → (∀ k, v'.ownBlock = some k → v.ownBlock = some k ∨ w.heap.size ≤ k) → wpList P ops Q rest (a.put o.dst v') w') : wpList P ops Q (o :: rest) a w := by
  obtain ⟨i, hi, hz, hsize, hby⟩ := info_parts hinfo
  refine wpList_plain hgd fun K hK => ?_
  obtain ⟨v', w', hr, h2, h3, h4⟩ := run_append_S (P := P) w base t o.type e i z size bytes ht hi hz hsize hby hzs hsz v n xs hown ad m c news hl hnews h1 h63 hbytes hbase
  unfold Oper.wp execOp
  simp only [ho, resolve, invoke, builtin, Sem.run_bind, Sem.run_pure, Result.andThen_ok, List.map_toArray, List.map_cons, List.map_nil, hs, hx, hr]
  exact hK _ _ (h v' w' h2 h3 h4)
end

/-! ### lists of bytes -/
/-- A byte as a value. -/
def bv (b : UInt8) : Value := .int .u8 (b.toNat : Int)
def bvs (l : List UInt8) : List Value := l.map bv
@[simp] theorem bvs_length (l : List UInt8) : (bvs l).length = l.length := by simp [bvs]
@[simp] theorem bvs_append (l m : List UInt8) : bvs (l ++ m) = bvs l ++ bvs m := by simp [bvs]

theorem ba_app (a : List UInt8) (s : ByteArray) : (⟨a.toArray⟩ : ByteArray) ++ s = ⟨(a ++ s.data.toList).toArray⟩ := by
  have : ((⟨a.toArray⟩ : ByteArray) ++ s).data = (⟨(a ++ s.data.toList).toArray⟩ : ByteArray).data := by
    rw [ByteArray.data_append]; apply Array.ext'; simp
  exact ByteArray.ext this
theorem ba_app' (s u : ByteArray) : s ++ u = ⟨(s.data.toList ++ u.data.toList).toArray⟩ := ba_app s.data.toList u
theorem ba_extract (s : ByteArray) (a b : Nat) : s.extract a b = ⟨((s.data.toList.take b).drop a).toArray⟩ := by
  apply ByteArray.ext
  rw [ByteArray.data_extract]
  apply Array.ext'
  simp [List.drop_take]
theorem ba_eq (s : ByteArray) : (⟨s.data.toList.toArray⟩ : ByteArray) = s := rfl
theorem ba_size (s : ByteArray) : s.data.toList.length = s.size := rfl
theorem bvs_get (l : List UInt8) (i : Nat) : (bvs l)[i]? = l[i]?.map bv := by simp [bvs]
theorem bvs_nums (l : List UInt8) : bvs l = (l.map fun b => (b.toNat : Int)).map (Value.int .u8) := by simp [bvs, bv, Function.comp_def]

/-- string(b) of bytes that lie at the head of a block. -/
theorem run_bytes_str {P : Program} (w : World) (src dst e : TypeId) (hs : P.underlying src = some (.slice e)) (he : P.underlying e = some (.int .u8)) (hd : P.underlying dst = some .string)
    {b off len cap : Nat} {l : List UInt8} (hl : l.length = len) (hc : ∀ i, i < len → w.cell? ⟨b, off + i, none⟩ = (l[i]?.map bv)) :
    (convert src dst (.slice (some ⟨b, off, none⟩) len cap)).run P w = .ok (.string ⟨l.toArray⟩) w := by
  have h := run_convert_bytes_arg (P := P) w src e hs he b off len cap (l.map fun b => (b.toNat : Int)) (by simp [hl]) (fun i hi => by
    rw [hc i hi]
    have : i < l.length := by omega
    simp [this, bv, List.getD]) dst hd
  rw [h]
  have e : List.map ((fun n => UInt8.ofNat n.toNat) ∘ fun b => (b.toNat : Int)) l = l := by
    have : ((fun n => UInt8.ofNat n.toNat) ∘ fun b : UInt8 => (b.toNat : Int)) = id := by
      funext b; simp
    rw [this]; simp
  simp [strOfNums, e]

/-- The same, the block known whole. -/
theorem run_bytes_blk {P : Program} (w : World) (src dst e : TypeId) (hs : P.underlying src = some (.slice e)) (he : P.underlying e = some (.int .u8)) (hd : P.underlying dst = some .string)
    {b len cap : Nat} {l : List UInt8} {t : TypeId} {fr : Nat × Nat} (hl : l.length = len) (hb : w.heap[b]? = some (.cells (bvs l).toArray t fr)) :
    (convert src dst (.slice (some ⟨b, 0, none⟩) len cap)).run P w = .ok (.string ⟨l.toArray⟩) w :=
  run_bytes_str w src dst e hs he hd hl (fun i _ => by rw [blk_cell hb]; simp [bvs_get])

end Go.Proofs.YtbalbjhmboppoaaDoor
