/-
  (redo.slots).found: the transaction at a place, with a number.
  The slots are fewer than 2^40; the table of check lies where it lies.
-/
import Derived.Test.YtbalbjhmboppoaaDoorS3
set_option linter.unusedSimpArgs false
set_option linter.unusedVariables false
namespace Go.Proofs.YtbalbjhmboppoaaDoor
open Go.RowKit

/-- Numbers are read, one behind the other. -/
def numsS : Sc → Nat → Nat → Sc × List Int
  | s, _, 0 => (s, [])
  | s, most, n + 1 => ((numS (numsS s most n).1 most).1, (numsS s most n).2 ++ [((numS (numsS s most n).1 most).2 : Int)])
theorem numsS_length (s : Sc) (most n : Nat) : (numsS s most n).2.length = n := by
  induction n with
  | zero => rfl
  | succ n ih => simp [numsS, ih]
theorem numsS_len (s : Sc) (most n : Nat) : (numsS s most n).1.left.length ≤ s.left.length := by
  induction n with
  | zero => exact Nat.le_refl _
  | succ n ih => exact Nat.le_trans (numS_len _ _) ih
def putsOf (L : List Bs) (place : Int) (ats : List Int) : List PutM := (List.range ats.length).map fun i => (ats.getD i 0, atB L (place + 1 + i))
theorem putsOf_length (L : List Bs) (place : Int) (ats : List Int) : (putsOf L place ats).length = ats.length := by simp [putsOf]
theorem putsOf_snoc (L : List Bs) (place : Int) (ats : List Int) (k : Int) : putsOf L place (ats ++ [k]) = putsOf L place ats ++ [(k, atB L (place + 1 + ats.length))] := by
  simp only [putsOf, List.length_append, List.length_singleton, List.range_succ, List.map_append, List.map_cons, List.map_nil]
  congr 1
  · apply List.map_congr_left
    intro i hi
    simp at hi
    simp only [List.getD]
    rw [List.getElem?_append_left hi]
  · simp [List.getD]
/-- The heads of a transaction's first line: number, how many. -/
def foundS (L : List Bs) (place seq : Int) : List PutM :=
  match rtextS (atB L place) [83, 67, 68] with
  | none => []
  | some r =>
    let a := numS ⟨r, false⟩ 1099511627776
    let b := numS a.1 60
    if b.1.spoil = true ∨ (a.2 : Int) ≠ seq ∨ b.2 < 1 ∨ L.length < b.2 + 2 then []
    else if endS (numsS b.1 65535 b.2).1 ≠ 0 ∨ atB L place ≠ firstB seq (numsS b.1 65535 b.2).2 ∨ atB L (place + b.2 + 1) ≠ lastB seq b.2 then []
    else putsOf L place (numsS b.1 65535 b.2).2
/-- A row of writes that the call has made. -/
def PutsNew (w : World) (xs : List PutM) (e : Ending) (w' : World) : Prop :=
  Below w.heap.size w w' ∧ ∃ v, e = .returned v ∧ w'.ownsRow w.heap.size 40 2 v xs.length (putCells2 xs)
theorem PutsNew.nil {w w' : World} (h : Below w.heap.size w w') : PutsNew w [] (.returned (.slice none 0 0)) w' := ⟨h, _, rfl, World.ownsRow_nil _ _ _ _⟩

theorem info_int : (Tryd.prog.info? 3).map (fun i => (i.zero, i.size, i.bytes)) = some (some (.int .i64 0), 1, 8) := by kernel_rfl

theorem own_reads {w : World} {base n c : Nat} {e : TypeId} {size : Nat} {A : Option Addr} {xs : List Value} (h : w.ownsRow base e size (.slice A n c) n xs) : Reads w A xs ∧ n ≤ c := by
  constructor
  · intro hne
    have hn : 0 < n := by
      have := h.1
      cases n with
      | zero => simp at this; exact absurd this hne
      | succ n => omega
    obtain ⟨g, cur, hA, hg, hc⟩ := own_head h hn
    refine ⟨g, 0, hA, fun j hj => ?_⟩
    rw [Nat.zero_add, blk_cell hg, hc j hj, List.getElem?_eq_getElem hj]
  · rcases h.2 with ⟨h1, rfl⟩ | ⟨g, cap, cur, h1, hb, hh, hnc, _⟩
    · omega
    · injection h1 with _ _ h2; omega
theorem Reads.below {w w' : World} {A : Option Addr} {cs : List Value} (h : Reads w A cs) (hb : Below w.heap.size w w') : Reads w' A cs := by
  intro hne
  obtain ⟨b, off, rfl, hc⟩ := h hne
  refine ⟨b, off, rfl, fun j hj => ?_⟩
  have := hc j hj
  exact (hb.cell (p := ⟨b, off + j, none⟩) (World.block_lt_of_cell? w _ this)).trans this

theorem rtextS_len {l k r : Bs} (h : rtextS l k = some r) : r.length ≤ 256 := by
  unfold rtextS at h
  split at h
  · injection h with h
    have h1 := openB_len l
    have h2 : (cOpenB (openB l)).length ≤ 256 := by unfold cOpenB; split <;> simp <;> omega
    rw [← h]; simp; omega
  · cases h
set_option maxRecDepth 100000 in
set_option maxHeartbeats 1000000 in
theorem found_any (L : List Bs) (A : Option Addr) (c : Nat) (place seq : Int) (w : World) (hR : Reads w A (L.map sv)) (h0 : 0 ≤ place) (h1 : place ≤ 1000000) (hL : 0 < L.length) (hL2 : L.length ≤ 1099511627776) (hsz : ∀ i, (atB L i).length ≤ 1099511627776) (hT : Tab w) :
    Calls Tryd.prog 72 #[.slice A L.length c, .int .i64 place, .int .i64 seq] w fun e w' => PutsNew w (foundS L place seq) e w' := by
  obtain ⟨o, ho⟩ : ∃ o, o = rtextS (atB L place) [83, 67, 68] := ⟨_, rfl⟩
  have hx := rtext_any ⟨(atB L place).toArray⟩ ⟨#[83, 67, 68]⟩ w (hsz place) (by decide) hT
  have hF : foundS L place seq = match (generalizing := false) o with
  | none => []
  | some r =>
    let a := numS ⟨r, false⟩ 1099511627776
    let b := numS a.1 60
    if b.1.spoil = true ∨ (a.2 : Int) ≠ seq ∨ b.2 < 1 ∨ L.length < b.2 + 2 then []
    else if endS (numsS b.1 65535 b.2).1 ≠ 0 ∨ atB L place ≠ firstB seq (numsS b.1 65535 b.2).2 ∨ atB L (place + b.2 + 1) ≠ lastB seq b.2 then []
    else putsOf L place (numsS b.1 65535 b.2).2 := by rw [ho]; rfl
  simp only [← ho] at hx
  have HT := Go.Lib.hid hT
  have HR := Go.Lib.hid hR
  have HF := Go.Lib.hid hF
  have HZ := Go.Lib.hid hsz
  have HO := Go.Lib.hid ho
  clear hT hR ho hF hsz
  go_enter Tryd.func72, Tryd.ntmps72
  go_wp2_with fail
  refine (sat_any L A c place _ HR.out h0 (by omega) hL hL2).mono ?_
  rintro e w1 ⟨rfl, rfl⟩
  go_wp2_with fail
  refine hx.mono ?_
  rintro e w1 ⟨hb1, hcase⟩
  clear hx
  rcases hcase with ⟨rfl, rfl⟩ | ⟨r, p, rfl, rfl, hp, hS⟩
  · go_wp2_with fail
    refine (Num_nil _ (by omega) (by omega) _).mono ?_
    rintro e w2 ⟨rfl, rfl⟩
    go_wp2_with fail
    refine (Num_nil _ (by omega) (by omega) _).mono ?_
    rintro e w2 ⟨rfl, rfl⟩
    go_wp2_with fail
    refine (Sound_nil _).mono ?_
    rintro e w2 ⟨rfl, rfl⟩
    go_wp2_with fail
    go_ret
    rw [HF.out]
    exact PutsNew.nil hb1
  · have hrl : r.length ≤ 1099511627776 := by have := rtextS_len HO.out.symm; omega
    have hal := numS_len ⟨r, false⟩ 1099511627776
    have halt := numS_lt ⟨r, false⟩ 1099511627776
    obtain ⟨a, ha⟩ : ∃ a, a = numS ⟨r, false⟩ 1099511627776 := ⟨_, rfl⟩
    rw [← ha] at hal halt
    have hbl := numS_len a.1 60
    have hblt := numS_lt a.1 60
    obtain ⟨b, hb⟩ : ∃ b, b = numS a.1 60 := ⟨_, rfl⟩
    rw [← hb] at hbl hblt
    have HF2 : Hid (foundS L place seq = if b.1.spoil = true ∨ (a.2 : Int) ≠ seq ∨ b.2 < 1 ∨ L.length < b.2 + 2 then []
      else if endS (numsS b.1 65535 b.2).1 ≠ 0 ∨ atB L place ≠ firstB seq (numsS b.1 65535 b.2).2 ∨ atB L (place + b.2 + 1) ≠ lastB seq b.2 then []
      else putsOf L place (numsS b.1 65535 b.2).2) := by
      show _ = _
      rw [HF.out, hb, ha]
    have HA := Go.Lib.hid ha
    have HB := Go.Lib.hid hb
    clear ha hb HF
    go_wp2_with fail
    refine (Num_any _ _ 1099511627776 _ hS hrl (by omega)).mono ?_
    rintro e w2 ⟨rfl, hS2, hU2⟩
    rw [← HA.out] at hS2 ⊢
    go_wp2_with fail
    refine (Num_any _ _ 60 _ hS2 (Nat.le_trans hal hrl) (by omega)).mono ?_
    rintro e w3 ⟨rfl, hS3, hU3⟩
    rw [← HB.out] at hS3 ⊢
    have hB3 : Below w.heap.size w w3 := (hb1.trans (hU2.below hb1.size (by simpa using hp))).trans (hU3.below (by have := hb1.size; have := hU2.size; omega) (by simpa using hp))
    clear hS hS2 hU2 hU3 hb1
    obtain ⟨sa, an⟩ := a
    obtain ⟨sb, n⟩ := b
    simp only at hal halt hbl hblt HF2 hS3 ⊢
    go_wp2_with fail
    refine (Sound_any _ _ _ hS3).mono ?_
    rintro e w4 ⟨rfl, rfl⟩
    by_cases hbad : sb.spoil = true ∨ (an : Int) ≠ seq ∨ n < 1 ∨ L.length < n + 2
    · have HV : Hid (foundS L place seq = []) := by show _ = _; rw [HF2.out, if_pos hbad]
      have HBAD := Go.Lib.hid hbad
      clear hbad HF2
      cases hsp : sb.spoil
      · by_cases hq : (an : Int) = seq
        · by_cases hn : n < 1
          · go_wp2_with fail
            go_ret
            rw [HV.out]
            exact PutsNew.nil hB3
          · have hL3 : L.length < n + 2 := by
              have := HBAD.out
              rcases this with h | h | h | h
              · rw [hsp] at h; cases h
              · exact absurd hq h
              · omega
              · exact h
            go_wp2_with fail
            go_ret
            rw [HV.out]
            exact PutsNew.nil hB3
        · go_wp2_with fail
          go_ret
          rw [HV.out]
          exact PutsNew.nil hB3
      · go_wp2_with fail
        go_ret
        rw [HV.out]
        exact PutsNew.nil hB3
    · have hsp : sb.spoil = false := by cases h : sb.spoil; rfl; exact absurd (.inl h) hbad
      have hq : (an : Int) = seq := by
        cases Decidable.em ((an : Int) = seq) with
        | inl h => exact h
        | inr h => exact absurd (.inr (.inl h)) hbad
      have hn1 : 1 ≤ n := by
        cases Decidable.em (1 ≤ n) with
        | inl h => exact h
        | inr h => exact absurd (.inr (.inr (.inl (by omega)))) hbad
      have hn2 : n + 2 ≤ L.length := by
        cases Decidable.em (n + 2 ≤ L.length) with
        | inl h => exact h
        | inr h => exact absurd (.inr (.inr (.inr (by omega)))) hbad
      have HF3 : Hid (foundS L place seq = if endS (numsS sb 65535 n).1 ≠ 0 ∨ atB L place ≠ firstB seq (numsS sb 65535 n).2 ∨ atB L (place + n + 1) ≠ lastB seq n then []
        else putsOf L place (numsS sb 65535 n).2) := by show _ = _; rw [HF2.out, if_neg hbad]
      clear hbad HF2
      have hsl : sb.left.length ≤ 1099511627776 := by omega
      have HSL := Go.Lib.hid hsl
      go_wp2_with fail
      go_loopw [10, 11, 42] (fun pv av i wr => ∃ j : Nat, j ≤ n ∧ i = .int .i64 j ∧ wr.ownsRow w.heap.size 40 2 pv j (putCells2 (putsOf L place (numsS sb 65535 j).2)) ∧
        wr.ownsRow w.heap.size 3 1 av j ((numsS sb 65535 j).2.map (Value.int .i64)) ∧ ScAt wr p (numsS sb 65535 j).1 ∧ Below w.heap.size w wr) (fun _ _ i _ => n - (intOf i).toNat)
      case atStart => exact ⟨0, Nat.zero_le _, rfl, World.ownsRow_nil _ _ _ _, World.ownsRow_nil _ _ _ _, hS3, hB3⟩
      case round =>
        obtain ⟨j, hj, rfl, hpv, hav, hSj, hBj⟩ := hrel
        obtain ⟨A1, c1, rfl⟩ := own_slice hpv
        obtain ⟨A2, c2, rfl⟩ := own_slice hav
        have hjl := numsS_len sb 65535 j
        obtain ⟨ss, hss⟩ : ∃ ss, ss = (numsS sb 65535 j).1 := ⟨_, rfl⟩
        obtain ⟨xs, hxs⟩ : ∃ xs, xs = (numsS sb 65535 j).2 := ⟨_, rfl⟩
        have hxl : xs.length = j := by rw [hxs]; exact numsS_length _ _ _
        have HN : Hid (numsS sb 65535 (j + 1) = ((numS ss 65535).1, xs ++ [((numS ss 65535).2 : Int)])) := by show _ = _; rw [hss, hxs]; rfl
        rw [← hss] at hSj hjl
        rw [← hxs] at hpv hav
        have HE : Hid (numsS sb 65535 j = (ss, xs)) := by show _ = _; rw [hss, hxs]
        clear hss hxs
        have hz0 := hBj.size
        by_cases hlt : j < n
        · have hql := numS_lt ss 65535
          obtain ⟨q, hq⟩ : ∃ q, q = numS ss 65535 := ⟨_, rfl⟩
          have hNum := Num_any p ss 65535 wr hSj (by omega) (by omega)
          rw [← hq] at hNum HN hql
          clear hq
          obtain ⟨sq, k⟩ := q
          simp only at hNum HN hql
          go_wp2_with fail
          refine hNum.mono ?_
          rintro e w4 ⟨rfl, hS4, hU4⟩
          have hB4 : Below w.heap.size w w4 := hBj.trans (hU4.below hz0 (by simpa using hp))
          have hpv4 := own_upd hpv hU4 (fun b hb hm => by
            obtain ⟨cs, hcs⟩ := own_ty hpv hb
            simp at hm; subst hm
            exact ne_of_ty hcs hSj (by decide) rfl)
          have hav4 := own_upd hav hU4 (fun b hb hm => by
            obtain ⟨cs, hcs⟩ := own_ty hav hb
            simp at hm; subst hm
            exact ne_of_ty hcs hSj (by decide) rfl)
          obtain ⟨W, hW⟩ : ∃ W, W = w4.alloc (.cells #[.int .i64 k] 3) := ⟨_, rfl⟩
          have hn1 : ∀ i u, [Value.int .i64 (k : Int)][i]? = some u → W.cell? ((⟨w4.heap.size, 0, none⟩ : Addr).add i) = some u := by
            intro i u hi
            rw [hW]
            match i, hi with
            | 0, hi => simp at hi; subst hi; simp [Addr.add]
          have HW := Go.Lib.hid hW
          have hBW : Below w.heap.size w W := by rw [hW]; exact hB4.alloc hB4.size _
          have hpvW : W.ownsRow w.heap.size 40 2 (.slice A1 j c1) j (putCells2 (putsOf L place xs)) := by rw [hW]; exact hpv4.alloc _
          have havW : W.ownsRow w.heap.size 3 1 (.slice A2 j c2) j (xs.map (Value.int .i64)) := by rw [hW]; exact hav4.alloc _
          have hSW : ScAt W p sq := by rw [hW]; exact blk_alloc hS4 _
          clear hW hpv4 hav4 hpv hav
          go_wp2_with (at_builtin; rw [← HW.out]; refine wpList_append_S rfl _ _ 23 rfl w.heap.size 3 _ 1 8 Tryd.underlying23 info_int rfl (by decide) (.slice A2 j c2) _ _ rfl havW ⟨w4.heap.size, 0, none⟩ 1 1 [.int .i64 k] rfl rfl hn1 ?c2 ?c3 ?c4 hBW.size ?_)
          case c2 => intro u hu; simp at hu; subst hu; rfl
          case c3 => unfold maxLen; omega
          case c4 => omega
          intro av' w5 hav5 hg5 hf5
          have hne5 : ∀ {b : Nat} {cs : Array Value} {t : TypeId}, W.heap[b]? = some (.cells cs t (0, 0)) → t ≠ 3 → w5.heap[b]? = W.heap[b]? := fun {b cs t} hb ht => hg5.block b (blk_lt hb) (fun e => by
            obtain ⟨cs2, hcs⟩ := own_ty havW e.symm
            exact ne_of_ty hb hcs ht rfl)
          have hpv5 : w5.ownsRow w.heap.size 40 2 (.slice A1 j c1) j (putCells2 (putsOf L place xs)) := own_same hpvW (fun b hb => by
            obtain ⟨cs, hcs⟩ := own_ty hpvW hb
            exact hne5 hcs (by decide))
          have hS5 : ScAt w5 p sq := (hne5 hSW (by decide)).trans hSW
          have hB5 : Below w.heap.size w w5 := hBW.trans ((upd_of_grown (S := blk1 (.slice A2 j c2)) hg5 (fun k hk => mem_blk1.2 hk)).below hBW.size (fun k hk => (havW.lt k (mem_blk1.1 hk)).1))
          obtain ⟨A3, c3, rfl⟩ := own_slice hav5
          clear hne5 hg5 hf5 hpvW hSW hn1 HW hBW havW hS4 hU4 hB4
          have hpl : 0 ≤ place + 1 + (j : Int) := by omega
          have hpl2 : place + 1 + (j : Int) ≤ 1099511627776 := by omega
          obtain ⟨u, hu⟩ : ∃ u, u = atB L (place + 1 + j) := ⟨_, rfl⟩
          have hSat := sat_any L A c (place + 1 + j) w5 (HR.out.below hB5) hpl hpl2 hL hL2
          rw [← hu] at hSat
          have HU := Go.Lib.hid hu
          clear hu hpl hpl2
          obtain ⟨W2, hW2⟩ : ∃ W2, W2 = w5.alloc (.cells #[.int .i64 k, .string ⟨u.toArray⟩] 40) := ⟨_, rfl⟩
          have hn2' : ∀ i v, [Value.int .i64 (k : Int), .string ⟨u.toArray⟩][i]? = some v → W2.cell? ((⟨w5.heap.size, 0, none⟩ : Addr).add i) = some v := by
            intro i v hi
            rw [hW2]
            match i, hi with
            | 0, hi => simp at hi; subst hi; simp [Addr.add]
            | 1, hi => simp at hi; subst hi; simp [Addr.add]
          have HW2 := Go.Lib.hid hW2
          have hBW2 : Below w.heap.size w W2 := by rw [hW2]; exact hB5.alloc hB5.size _
          have hpvW2 : W2.ownsRow w.heap.size 40 2 (.slice A1 j c1) j (putCells2 (putsOf L place xs)) := by rw [hW2]; exact hpv5.alloc _
          have havW2 : W2.ownsRow w.heap.size 3 1 (.slice A3 (j + 1) c3) (j + 1) (xs.map (Value.int .i64) ++ [.int .i64 k]) := by rw [hW2]; exact hav5.alloc _
          have hSW2 : ScAt W2 p sq := by rw [hW2]; exact blk_alloc hS5 _
          clear hW2 hpv5 hav5 hS5
          go_wp2_with fail
          refine hSat.mono ?_
          rintro e w6 ⟨rfl, rfl⟩
          clear hSat
          go_wp2_with (at_builtin; rw [← HW2.out]; refine wpList_append_S rfl _ _ 41 rfl w.heap.size 40 _ 2 24 Tryd.underlying41 info_put rfl (by decide) (.slice A1 j c1) _ _ rfl hpvW2 ⟨w5.heap.size, 0, none⟩ 1 1 [.int .i64 k, .string ⟨u.toArray⟩] rfl rfl hn2' ?c2 ?c3 ?c4 hBW2.size ?_)
          case c2 => intro u hu; simp at hu; rcases hu with rfl | rfl <;> rfl
          case c3 => unfold maxLen; omega
          case c4 => omega
          intro pv' w7 hpv7 hg7 hf7
          have hne7 : ∀ {b : Nat} {cs : Array Value} {t : TypeId}, W2.heap[b]? = some (.cells cs t (0, 0)) → t ≠ 40 → w7.heap[b]? = W2.heap[b]? := fun {b cs t} hb ht => hg7.block b (blk_lt hb) (fun e => by
            obtain ⟨cs2, hcs⟩ := own_ty hpvW2 e.symm
            exact ne_of_ty hb hcs ht rfl)
          have hav7 : w7.ownsRow w.heap.size 3 1 (.slice A3 (j + 1) c3) (j + 1) (xs.map (Value.int .i64) ++ [.int .i64 k]) := own_same havW2 (fun b hb => by
            obtain ⟨cs, hcs⟩ := own_ty havW2 hb
            exact hne7 hcs (by decide))
          have hS7 : ScAt w7 p sq := (hne7 hSW2 (by decide)).trans hSW2
          have hB7 : Below w.heap.size w w7 := hBW2.trans ((upd_of_grown (S := blk1 (.slice A1 j c1)) hg7 (fun k hk => mem_blk1.2 hk)).below hBW2.size (fun k hk => (hpvW2.lt k (mem_blk1.1 hk)).1))
          obtain ⟨A4, c4, rfl⟩ := own_slice hpv7
          clear hne7 hg7 hf7 hpvW2 hSW2 hn2' HW2 hBW2 havW2
          go_wp2_with fail
          go_roundw
          case rel =>
            refine ⟨j + 1, by omega, by go_num, ?_, ?_, ?_, hB7⟩
            · rw [HN.out, putsOf_snoc, putCells2_append, hxl, ← HU.out]
              exact hpv7
            · rw [HN.out]
              simpa using hav7
            · rw [HN.out]; exact hS7
          case measure => simp [intOf]; omega
        · obtain rfl : j = n := by omega
          have HFF : Hid (foundS L place seq = if endS ss ≠ 0 ∨ atB L place ≠ firstB seq xs ∨ atB L (place + j + 1) ≠ lastB seq j then [] else putsOf L place xs) := by show _ = _; rw [HF3.out, HE.out]
          clear HF3 HE
          obtain ⟨en, hen⟩ : ∃ en, en = endS ss := ⟨_, rfl⟩
          have hEnd := End_any p ss wr hSj
          rw [← hen] at hEnd HFF
          clear hen
          obtain ⟨hAR, hAc⟩ := own_reads hav
          by_cases he : en = 0
          · subst he
            obtain ⟨b0, hb0⟩ : ∃ b0 : ByteArray, b0 = ⟨(atB L place).toArray⟩ := ⟨_, rfl⟩
            obtain ⟨b1, hb1⟩ : ∃ b1 : ByteArray, b1 = ⟨(firstB seq xs).toArray⟩ := ⟨_, rfl⟩
            obtain ⟨b2, hb2⟩ : ∃ b2 : ByteArray, b2 = ⟨(atB L (place + j + 1)).toArray⟩ := ⟨_, rfl⟩
            obtain ⟨b3, hb3⟩ : ∃ b3 : ByteArray, b3 = ⟨(lastB seq j).toArray⟩ := ⟨_, rfl⟩
            have hSat1 := sat_any L A c place wr (HR.out.below hBj) h0 (by omega) hL hL2
            have hFirst := First_any seq A2 c2 xs wr (HT.out.below hBj) hAR (by omega) (by omega)
            have hSat2 := fun w1 h => sat_any L A c (place + j + 1) w1 h (by omega) (by omega) hL hL2
            have hLast := Last_any seq j
            rw [← hb0] at hSat1
            rw [← hb1, hxl] at hFirst
            simp only [← hb2] at hSat2
            simp only [← hb3] at hLast
            have HB0 := Go.Lib.hid hb0
            have HB1 := Go.Lib.hid hb1
            have HB2 := Go.Lib.hid hb2
            have HB3 := Go.Lib.hid hb3
            have HS2 := Go.Lib.hid hSat2
            have HLL := Go.Lib.hid hLast
            clear hb0 hb1 hb2 hb3 hSat2 hLast hAR
            by_cases hx : b0 = b1
            · have hx1 : (b0.toList == b1.toList) = true := by simp [hx]
              have HX := Go.Lib.hid hx
              clear hx
              by_cases hy : b2 = b3
              · have hy1 : (b2.toList == b3.toList) = true := by simp [hy]
                have HY := Go.Lib.hid hy
                clear hy
                go_wp2_with fail
                refine hEnd.mono ?_
                rintro e w5 ⟨rfl, rfl⟩
                go_wp2_with fail
                refine hSat1.mono ?_
                rintro e w5 ⟨rfl, rfl⟩
                go_wp2_with fail
                refine hFirst.mono ?_
                rintro e w5 ⟨rfl, hb5⟩
                go_wp2_with fail
                refine (HS2.out _ (HR.out.below (hBj.trans (hb5.mono hz0)))).mono ?_
                rintro e w6 ⟨rfl, rfl⟩
                go_wp2_with fail
                refine (HLL.out _ (HT.out.below (hBj.trans (hb5.mono hz0)))).mono ?_
                rintro e w6 ⟨rfl, hb6⟩
                go_wp2_with fail
                go_ret
                have e1 : atB L place = firstB seq xs := by have := HX.out; rw [HB0.out, HB1.out] at this; simpa using this
                have e2 : atB L (place + j + 1) = lastB seq j := by have := HY.out; rw [HB2.out, HB3.out] at this; simpa using this
                have ev : foundS L place seq = putsOf L place xs := by
                  rw [HFF.out, if_neg]
                  rintro (h | h | h)
                  · exact h rfl
                  · exact h e1
                  · exact h e2
                rw [ev]
                refine ⟨(hBj.trans (hb5.mono hz0)).trans (hb6.mono (by have := hb5.size; omega)), _, rfl, ?_⟩
                rw [putsOf_length, hxl]
                refine own_same hpv (fun b hb => ?_)
                have hl := (hpv.lt b hb).2
                exact (hb6.block b (Nat.lt_of_lt_of_le hl hb5.size)).trans (hb5.block b hl)
              · have hy1 : (b2.toList == b3.toList) = false := by
                  rw [ByteArray.toList_eq, ByteArray.toList_eq]
                  simp only [beq_eq_false_iff_ne]
                  intro e
                  exact hy (by cases b2; cases b3; simpa using e)
                have HY := Go.Lib.hid hy
                clear hy
                go_wp2_with fail
                refine hEnd.mono ?_
                rintro e w5 ⟨rfl, rfl⟩
                go_wp2_with fail
                refine hSat1.mono ?_
                rintro e w5 ⟨rfl, rfl⟩
                go_wp2_with fail
                refine hFirst.mono ?_
                rintro e w5 ⟨rfl, hb5⟩
                go_wp2_with fail
                refine (HS2.out _ (HR.out.below (hBj.trans (hb5.mono hz0)))).mono ?_
                rintro e w6 ⟨rfl, rfl⟩
                go_wp2_with fail
                refine (HLL.out _ (HT.out.below (hBj.trans (hb5.mono hz0)))).mono ?_
                rintro e w6 ⟨rfl, hb6⟩
                go_wp2_with fail
                go_ret
                have ev : foundS L place seq = [] := by
                  rw [HFF.out, if_pos]
                  exact .inr (.inr (fun e => HY.out (by rw [HB2.out, HB3.out, e])))
                rw [ev]
                exact PutsNew.nil ((hBj.trans (hb5.mono hz0)).trans (hb6.mono (by have := hb5.size; omega)))
            · have hx1 : (b0.toList == b1.toList) = false := by
                rw [ByteArray.toList_eq, ByteArray.toList_eq]
                simp only [beq_eq_false_iff_ne]
                intro e
                exact hx (by cases b0; cases b1; simpa using e)
              have HX := Go.Lib.hid hx
              clear hx
              go_wp2_with fail
              refine hEnd.mono ?_
              rintro e w5 ⟨rfl, rfl⟩
              go_wp2_with fail
              refine hSat1.mono ?_
              rintro e w5 ⟨rfl, rfl⟩
              go_wp2_with fail
              refine hFirst.mono ?_
              rintro e w5 ⟨rfl, hb5⟩
              go_wp2_with fail
              go_ret
              have ev : foundS L place seq = [] := by
                rw [HFF.out, if_pos]
                exact .inr (.inl (fun e => HX.out (by rw [HB0.out, HB1.out, e])))
              rw [ev]
              exact PutsNew.nil (hBj.trans (hb5.mono hz0))
          · have he2 : (en == 0) = false := by simp [he]
            have ev : Hid (foundS L place seq = []) := by show _ = _; rw [HFF.out, if_pos (.inl he)]
            go_wp2_with fail
            refine hEnd.mono ?_
            rintro e w5 ⟨rfl, rfl⟩
            go_wp2_with fail
            go_ret
            rw [ev.out]
            exact PutsNew.nil hBj

end Go.Proofs.YtbalbjhmboppoaaDoor
