/-
  A log and its disk in the midst of a law: what the calls give.
  The table of check lies where it lies.
-/
import Derived.Test.YtbalbjhmboppoaaDoorV6
import Derived.Test.YtbalbjhmboppoaaDoorV1
import Derived.Test.YtbalbjhmboppoaaDoorPL
import Derived.Laws.Bits128
set_option linter.unusedSimpArgs false
set_option linter.unusedVariables false
namespace Go.Proofs.YtbalbjhmboppoaaDoor
open Go.RowKit

theorem i64_and15 (n : Int) : bits .and .i64 n 15 = n % 16 := by
  have h127 : (BitVec.ofInt 64 15).toNat = 2 ^ 4 - 1 := by decide
  have key : (BitVec.ofInt 64 n &&& BitVec.ofInt 64 15).toNat = (n % ((2 ^ 64 : Nat) : Int)).toNat % 2 ^ 4 := by
    rw [BitVec.toNat_and, BitVec.toNat_ofInt, h127, Nat.and_two_pow_sub_one_eq_mod]
  show IntKind.i64.wrap ((BitVec.ofInt 64 n &&& BitVec.ofInt 64 15).toNat : Nat) = n % 16
  rw [key, IntKind.wrap_i64]
  omega

def OpenGo (W0 w : World) (S : List Nat) (p n : Nat) (r : OpenRes) (e : Ending) (w' : World) : Prop :=
  ∃ S', DW W0 w' S' p r.disk ∧ Upd S w w' ∧ Sub S S' w ∧ ((r.err ≠ 0 ∧ e = .returned (.tuple #[.pointer none, .int .i64 r.err])) ∨
    (r.err = 0 ∧ ∃ q, e = .returned (.tuple #[.pointer (some ⟨q, 0, none⟩), .int .i64 0]) ∧ LW W0 w' S' q p ⟨0, n, r.place, r.seq, 0, false⟩ ∧ w.heap.size ≤ q))
theorem open_go {W0 w : World} {S : List Nat} {p : Nat} {D : DiskS} (h : DW W0 w S p D) (ok : D.Ok) (hc : D.cache.length ≤ 549755813888) (n : Nat) :
    Calls Tryd.prog 18 #[.pointer (some ⟨p, 0, none⟩), .int .i64 0, .int .i64 (n : Int)] w fun e w' => OpenGo W0 w S p n (openS D 0 n) e w' := by
  refine (Open_any w 0 n h.d ok hc h.t h.zS).mono ?_
  rintro e w' ⟨S', h1, h2, h3, h4⟩
  refine ⟨S', h.ret h1 h2 h3 h.s, h2, h3, ?_⟩
  rcases h4 with h4 | ⟨h5, q, h6, h7, h8, h9⟩
  · exact .inl h4
  · exact .inr ⟨h5, q, h6, ⟨h7, h9, Nat.le_trans h.b.size h8⟩, h8⟩
/-- A journal begun: its log. -/
def OpenYes (W0 w : World) (S : List Nat) (p n : Nat) (D2 : DiskS) (p2 : Nat) (e : Ending) (w' : World) : Prop :=
  ∃ S' q, e = .returned (.tuple #[.pointer (some ⟨q, 0, none⟩), .int .i64 0]) ∧ DW W0 w' S' p D2 ∧ LW W0 w' S' q p ⟨0, n, p2, 1, 0, false⟩
theorem open_yes {W0 w : World} {S : List Nat} {p n : Nat} {D1 D2 : DiskS} {p2 : Nat} (h : DW W0 w S p D1) (st : Started n D1 D2 p2) :
    Calls Tryd.prog 18 #[.pointer (some ⟨p, 0, none⟩), .int .i64 0, .int .i64 (n : Int)] w fun e w' => OpenYes W0 w S p n D2 p2 e w' := by
  refine (open_go h st.ok1 (by have := st.c1; omega) n).mono ?_
  rintro e w' ⟨S', h1, h2, h3, h4⟩
  rw [st.opn] at h1 h4
  rcases h4 with ⟨h5, -⟩ | ⟨-, q, h6, h7, -⟩
  · exact absurd rfl h5
  · exact ⟨S', q, h6, h1, h7⟩
def FormatGo (W0 : World) (p : Nat) (D : DiskS) (er : Int) (e : Ending) (w' : World) : Prop := ∃ S', e = .returned (.int .i64 er) ∧ DW W0 w' S' p D
theorem format_go {W0 w : World} {S : List Nat} {p n : Nat} {D1 D2 : DiskS} {p2 : Nat} (h : DW W0 w S p (DiskS.new 40)) (st : Started n D1 D2 p2) :
    Calls Tryd.prog 17 #[.pointer (some ⟨p, 0, none⟩), .int .i64 0, .int .i64 (n : Int)] w fun e w' => FormatGo W0 p D1 0 e w' := by
  refine (Format_any w 0 n h.d (DiskS.Ok.new 40 (by omega) (by omega)) (Nat.zero_le _) h.t h.zS).mono ?_
  rintro e w' ⟨S', rfl, h1, h2, h3⟩
  rw [st.fmt] at h1 ⊢
  exact ⟨S', rfl, h.ret h1 h2 h3 h.s⟩
def NewGo (W0 : World) (n : Nat) (e : Ending) (w' : World) : Prop := ∃ p S, e = .returned (.pointer (some ⟨p, 0, none⟩)) ∧ DW W0 w' S p (DiskS.new n)
theorem new_go {W0 w : World} (hT : Tab W0) (hb : Below W0.heap.size W0 w) : Calls Tryd.prog 16 #[.int .i64 40] w fun e w' => NewGo W0 40 e w' := by
  refine (sectorNew_any 40 w (by omega) (by omega)).mono ?_
  rintro e w' ⟨p, S, h1, h2, h3, h4⟩
  exact ⟨p, S, h1, ⟨h2, (hT.below hb).below h3, hb.trans (h3.mono hb.size), fun k hk => Nat.le_trans hb.size (h4 k hk), hT.lt⟩⟩
/-- A log's call has turned both. -/
def LogGo (W0 w : World) (S : List Nat) (q p : Nat) (r : LRes) (er : Int) (e : Ending) (w' : World) : Prop :=
  ∃ S', e = .returned (.int .i64 er) ∧ DW W0 w' S' p r.disk ∧ LW W0 w' S' q p r.log ∧ Upd (q :: S) w w' ∧ Sub S S' w
theorem LogGo.of {W0 w : World} {S : List Nat} {q p : Nat} {D : DiskS} {L : LogS} {r : LRes} {e : Ending} {w' : World} (h : DW W0 w S p D) (l : LW W0 w S q p L) (hr : LRet w S q p r e w') : LogGo W0 w S q p r r.err e w' := by
  obtain ⟨S', h1, h2, h3, h4, h5, h6⟩ := hr
  refine ⟨S', h1, h.ret h2 h4 h5 (fun k hk => ?_), ⟨h3, h6, l.s⟩, h4, h5⟩
  rcases List.mem_cons.1 hk with rfl | hk
  · exact l.s
  · exact h.s k hk
theorem LW.ne {W0 w : World} {S : List Nat} {q p : Nat} {D : DiskS} {L : LogS} (l : LW W0 w S q p L) (h : DW W0 w S p D) : q ≠ 0 := by
  have h1 := l.s; have h2 := h.z; omega
theorem commit_go {W0 w : World} {S : List Nat} {q p : Nat} {D : DiskS} {L : LogS} {v : Value} (h : DW W0 w S p D) (l : LW W0 w S q p L) (lok : L.Ok) (ok : D.Ok) (hc : D.cache.length ≤ 800000000000) (ps : List PutM) (hP : PutsR w S v ps) (hl : ps.length ≤ 65536) (hs : ∀ x ∈ ps, x.2.length ≤ 256) :
    Calls Tryd.prog 20 #[.pointer (some ⟨q, 0, none⟩), v] w fun e w' => LogGo W0 w S q p (commitS L D ps) (commitS L D ps).err e w' :=
  (Commit_any w ps l.l lok h.d ok (by omega) l.n h.zS (l.ne h) h.t hP (by omega) (fun x hx => by have := hs x hx; omega)).mono fun e w' hr => LogGo.of h l hr
theorem commit_one_go {W0 w : World} {S : List Nat} {q p : Nat} {D : DiskS} {L : LogS} (h : DW W0 w S p D) (l : LW W0 w S q p L) (lok : L.Ok) (ok : D.Ok) (hc : D.cache.length ≤ 800000000000) (a : Int) (s : Bs) (hs : s.length = 256) :
    Calls Tryd.prog 20 #[.pointer (some ⟨q, 0, none⟩), .slice (some ⟨w.heap.size, 0, none⟩) 1 1] (w.alloc (.cells #[.int .i64 a, .string ⟨s.toArray⟩] 40)) fun e w' => LogGo W0 w S q p (commitS L D [(a, s)]) (commitS L D [(a, s)]).err e w' :=
  (commit_one w a s l.l lok h.d ok (by omega) l.n h.zS (l.ne h) h.t (by omega)).mono fun e w' hr => LogGo.of h l hr
theorem checkpoint_go {W0 w : World} {S : List Nat} {q p : Nat} {D : DiskS} {L : LogS} (h : DW W0 w S p D) (l : LW W0 w S q p L) (ok : D.Ok) (hc : D.cache.length ≤ 800000000000) :
    Calls Tryd.prog 24 #[.pointer (some ⟨q, 0, none⟩)] w fun e w' => LogGo W0 w S q p (checkpointS L D) (checkpointS L D).err e w' :=
  (Checkpoint_any w l.l h.d ok (by omega) l.n h.zS (l.ne h) h.t).mono fun e w' hr => LogGo.of h l hr
theorem used_go {W0 w : World} {S : List Nat} {q p : Nat} {L : LogS} (l : LW W0 w S q p L) : Calls Tryd.prog 22 #[.pointer (some ⟨q, 0, none⟩)] w fun e w' => e = .returned (.int .i64 L.used) ∧ w = w' := Used_any q (some ⟨p, 0, none⟩) L w l.l
theorem seq_go {W0 w : World} {S : List Nat} {q p : Nat} {L : LogS} (l : LW W0 w S q p L) : Calls Tryd.prog 23 #[.pointer (some ⟨q, 0, none⟩)] w fun e w' => e = .returned (.int .i64 L.seq) ∧ w = w' := Seq_any q (some ⟨p, 0, none⟩) L w l.l

end Go.Proofs.YtbalbjhmboppoaaDoor
