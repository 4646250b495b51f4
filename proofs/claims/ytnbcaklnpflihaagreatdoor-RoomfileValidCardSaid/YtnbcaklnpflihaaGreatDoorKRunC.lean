/- Walk of codes.repeated. Condition: at most a million strings. Walk of codes.List. Conditions: a text shorter than 2^30 bytes; what the program's variables hold. Plain: a number written in a width is read again; what a list that is one range says. No condition. Walks of coursefile.Parallel and timetableref10.Parallel; what a class holds. No condition. Walks of curriculum.single and timetableref11.Single. Conditions: the cells of the classes. Plain: the pairs of a list of numbers; two ways to find them; walk of timetableref02.Has. Condition: the cells. Plain: what a list of codes is joined to, and that it is listed again. No condition. Walk of codes.run: how many of the first codes are a range. Conditions: short codes; what the program's variables hold. -/
import Derived.Test.YtnbcaklnpflihaaGreatDoorShelfS
import Derived.Test.YtnbcaklnpflihaaGreatDoorKBetwC
import Derived.Lib.OwnBridge
import Derived.Sort.OwnSorted
import Derived.Test.YtnbcaklnpflihaaGreatDoorKTgG
import Derived.Test.YtnbcaklnpflihaaGreatDoorKSameL
import Derived.Deep.RegionHeld3
import Derived.Deep.DeepCutAuto
import Derived.Test.YtnbcaklnpflihaaGreatDoorKGath
import Derived.Test.YtnbcaklnpflihaaGreatDoorKOwn
namespace Go.Proofs.YtnbcaklnpflihaaGreatDoor
open Go.RowKit
set_option maxRecDepth 100000

theorem compact_lt (l : List (List UInt8)) : ((Lib.compact (l.mergeSort fun x y => decide (x ≤ y))).length < l.length) ↔ ¬ l.Nodup := by
  have hs := List.pairwise_mergeSort (le := fun x y : List UInt8 => decide (x ≤ y)) (fun a b c h1 h2 => by simp only [decide_eq_true_eq] at *; exact List.le_trans h1 h2) (fun a b => by simp only [Bool.or_eq_true, decide_eq_true_eq]; exact List.le_total a b) l
  have hp := (List.mergeSort_perm l fun x y => decide (x ≤ y)).nodup_iff
  have hlen := List.length_mergeSort (le := fun x y => decide (x ≤ y)) l
  generalize (l.mergeSort fun x y => decide (x ≤ y)) = L at hs hp hlen ⊢
  rw [← hp, ← hlen]
  have hidx : ∀ j (h : j < L.length), L.toArray[j]! = L[j] := fun j h => by rw [getElem!_pos L.toArray j (by simpa using h)]; simp
  constructor
  · intro h hn
    rw [Lib.compact_all L fun j hj => ?_] at h
    · exact absurd h (Nat.lt_irrefl _)
    · cases j with
      | zero => simp [Lib.keeps]
      | succ k =>
        refine Lib.keeps_pos ?_
        rw [hidx (k + 1) hj, show k + 1 - 1 = k from rfl, hidx k (by omega)]
        rw [List.nodup_iff_pairwise_ne, List.pairwise_iff_getElem] at hn
        exact (hn k (k + 1) (by omega) hj (by omega)).symm
  · intro hn
    rw [List.nodup_iff_pairwise_ne, List.pairwise_iff_getElem] at hn
    have hex : ∃ k, ∃ h : k + 1 < L.length, L[k] = L[k + 1] := by
      refine Classical.byContradiction fun hno => hn fun i j hi hj hij e => hno ⟨i, by omega, ?_⟩
      rw [List.pairwise_iff_getElem] at hs
      have h1 := of_decide_eq_true (hs i (i + 1) hi (by omega) (by omega))
      by_cases e2 : i + 1 = j
      · subst e2; exact e
      · have h2 := of_decide_eq_true (hs (i + 1) j (by omega) hj (by omega))
        rw [← e] at h2
        exact List.le_antisymm h1 h2
    obtain ⟨k, hk, e⟩ := hex
    unfold Lib.compact Lib.compactUpTo
    rw [List.length_map]
    have := (List.length_filter_lt_length_iff_exists (p := Lib.keeps L.toArray) (l := List.range L.length)).2 ⟨k + 1, List.mem_range.2 hk, by rw [Lib.keeps_neg (by omega) (by rw [hidx (k + 1) hk, show k + 1 - 1 = k from rfl, hidx k (by omega), e])]; simp⟩
    rwa [List.length_range] at this
theorem nodup_data (zs : List ByteArray) : (zs.map (·.data.toList)).Nodup ↔ zs.Nodup := by
  constructor
  · exact fun h => List.Pairwise.of_map _ (fun a b hab e => hab (by rw [e])) h
  · intro h
    refine List.pairwise_map.2 (h.imp fun {a b} hab e => hab ?_)
    rw [mkB_of e, ← mkB_of rfl]
set_option maxHeartbeats 1000000 in
theorem repeated_walk (A : Option Addr) (zs : List ByteArray) (c : Nat) (w : World) (h0 : 0 < zs.length) (hl : zs.length ≤ 1000000) (h : At kStr AnyB w A zs) :
    Calls Tryz.prog 111 #[.slice A zs.length c] w fun e w' => e = .returned (.bool (!decide zs.Nodup)) ∧ Below w.heap.size w w' := by
  obtain ⟨b, off, rfl, -, hlt, hc⟩ := h h0
  have hcell : ∀ j, j < zs.length → w.cell? ⟨b, off + j, none⟩ = some (.string (zs.getD j ByteArray.empty)) := by
    intro j hj
    obtain ⟨b', off', e, -, -, hz⟩ := h.str (List.getElem?_eq_getElem hj)
    injection e with e
    injection e with e1 e2
    subst e1 e2
    rw [hz, List.getD_eq_getElem?_getD, List.getElem?_eq_getElem hj]; rfl
  have hcl := Tryz.slices_Clone_string b off zs.length c zs w (Nat.le_refl _) (by omega) hcell
  rw [List.take_length, ← Lib.map_encStr] at hcl
  have hlt2 := compact_lt (zs.map (·.data.toList))
  rw [nodup_data, List.length_map] at hlt2
  have hls : (zs.map (·.data.toList)).length = zs.length := List.length_map _
  obtain ⟨n, hn⟩ : ∃ n, zs.length = n := ⟨_, rfl⟩
  obtain ⟨ss, hss⟩ : ∃ ss, zs.map (·.data.toList) = ss := ⟨_, rfl⟩
  obtain ⟨r, hr⟩ : ∃ r, decide zs.Nodup = r := ⟨_, rfl⟩
  have hval : Hid (decide ((Lib.compact (ss.mergeSort fun x y => decide (x ≤ y))).length < n) = !r) := hide (by
    rw [← hr, ← hss, ← hn, ← decide_not]
    refine decide_eq_decide.2 ?_
    exact hlt2)
  rw [hn] at hcl h0 hl hls ⊢
  rw [hss] at hcl hls
  rw [hr]
  obtain ⟨L, hL⟩ : ∃ L, (ss.mergeSort fun x y => decide (x ≤ y)) = L := ⟨_, rfl⟩
  have hLl : L.length = n := by rw [← hL, List.length_mergeSort, hls]
  rw [hL] at hval
  clear hlt2 hss hr hn hcell hc h
  go_enter Tryz.func111, Tryz.ntmps111
  go_wp2_with fail
  refine hcl.mono ?_
  clear hcl
  rintro e w1 ⟨v', rfl, hown, hnn, hb1⟩
  obtain ⟨g, cap, rfl, hg, hgl, hnc, hcm, -, hH⟩ := Lib.holds_of_ownsRow hown hnn
  have hso := Tryz.slices_Sort_string g 0 cap ss w1 hH hgl (by omega)
  rw [hls, hL] at hso
  clear hown hnn
  go_wp2_with fail
  refine hso.mono ?_
  clear hso
  rintro e w2 ⟨rfl, q, os, rfl⟩
  have hb2 : Below w.heap.size w (Sort.grow (Sort.putRow encStr (Sort.ahead w1 q) g 0 L.toArray) os) :=
    Below.grown hb1 (grownBy_sorted L.toArray) hb1.size (fun y hy => by injection hy with hy; omega)
  have hH2 : Sort.Holds encStr (Sort.grow (Sort.putRow encStr (Sort.ahead w1 q) g 0 L.toArray) os) g 0 L.toArray :=
    Sort.holds_grow _ _ _ _ _ _ (by rw [Sort.size_putRow]; exact hgl) (Sort.holds_putRow encStr (Sort.ahead w1 q) g 0 ss.toArray L.toArray (Sort.holds_ahead _ _ _ _ _ _ hH) (by simp only [List.size_toArray]; omega))
  obtain ⟨w2, hw2⟩ : ∃ w2, Sort.grow (Sort.putRow encStr (Sort.ahead w1 q) g 0 L.toArray) os = w2 := ⟨_, rfl⟩
  rw [hw2] at hb2 hH2 ⊢
  have hco := Tryz.slices_Compact_string g 0 cap L w2 hH2 (by omega) (by omega)
  rw [hLl] at hco
  clear hw2 hH
  go_wp2_with fail
  refine hco.mono ?_
  clear hco
  rintro e w3 ⟨rfl, q3, rfl⟩
  have hb3 := Lib.below_putRow (enc := encStr) (q := q3) (d := (Lib.compact L ++ List.replicate (n - (Lib.compact L).length) []).toArray) hb2 hg
  go_wp2
  go_ret
  exact ⟨by rw [← hval.out]; rfl, hb3⟩
end Go.Proofs.YtnbcaklnpflihaaGreatDoor

namespace Go.Proofs.YtnbcaklnpflihaaGreatDoor
open Go.RowKit
set_option maxRecDepth 100000

def cutA (p : ByteArray) : ByteArray := mkB (Lib.cut p.data.toList [46, 46]).1
def cutB (p : ByteArray) : ByteArray := mkB (Lib.cut p.data.toList [46, 46]).2.1
def dotT (p : ByteArray) : Bool := (Lib.cut p.data.toList [46, 46]).2.2
def twiB (p : ByteArray) : Bool := Lib.contains (Lib.cut p.data.toList [46, 46]).2.1 [46, 46]
theorem cutB_size (p : ByteArray) : (cutB p).size ≤ p.size := by
  unfold cutB
  rw [mkB_size, ← len_size p]
  unfold Lib.cut
  split
  · rw [List.length_drop]; omega
  · exact Nat.zero_le _
theorem cut2_walk (p : ByteArray) (hs : p.size < 1073741824) (w : World) (hS : Std w) : Calls Tryz.prog 108 #[.string p, .string ⟨#[46, 46]⟩] w fun e w' => e = .returned (.tuple #[.string (cutA p), .string (cutB p), .bool (dotT p)]) ∧ Below w.heap.size w w' := by
  obtain ⟨m, hm⟩ := hS.maxLen
  refine (Tryz.strings_Cut p ⟨#[46, 46]⟩ m w (by omega) hm).mono ?_
  rintro e w' ⟨rfl, n, rfl⟩
  exact ⟨rfl, ext_drewN (Below.refl _ _) n⟩
theorem con2_walk (p : ByteArray) (hs : p.size < 1073741824) (w : World) (hS : Std w) : Calls Tryz.prog 109 #[.string (cutB p), .string ⟨#[46, 46]⟩] w fun e w' => e = .returned (.bool (twiB p)) ∧ w' = w := by
  obtain ⟨m, hm⟩ := hS.maxLen
  have := Tryz.strings_Contains (cutB p) ⟨#[46, 46]⟩ m w (by have := cutB_size p; omega) hm
  rw [show (cutB p).data.toList = (Lib.cut p.data.toList [46, 46]).2.1 from mkB_list _] at this
  exact this
/-- How the reading of a part goes on. -/
theorem listF_err {out ps : List ByteArray} {p : ByteArray} (h : (partV p (64 - out.length)).1 ≠ 0) : listF out (p :: ps) = ((partV p (64 - out.length)).1, []) := by rw [listF, if_pos h]
theorem listF_ok {out ps : List ByteArray} {p : ByteArray} {more : List ByteArray} (h : partV p (64 - out.length) = (0, more)) : listF out (p :: ps) = if 64 < (out ++ more).length then (2, []) else listF (out ++ more) ps := by rw [listF, h, if_neg (by simp)]
theorem part_two {p : ByteArray} {room : Nat} (h0 : p.size ≠ 0) (h1 : twiB p = false) (h2 : dotT p = true) : partV p room = rangeV (cutA p) (cutB p) room := by
  unfold partV
  rw [if_neg (by rintro (h | h); exact h0 h; rw [show Lib.contains _ _ = twiB p from rfl, h1] at h; cases h)]
  exact if_pos h2
theorem part_one {p : ByteArray} {room : Nat} (h0 : p.size ≠ 0) (h1 : twiB p = false) (h2 : dotT p = false) : partV p room = if codeB p = true then (0, [p]) else (10, []) := by
  unfold partV
  rw [if_neg (by rintro (h | h); exact h0 h; rw [show Lib.contains _ _ = twiB p from rfl, h1] at h; cases h), if_neg (by rw [show (Lib.cut p.data.toList [46, 46]).2.2 = dotT p from rfl, h2]; simp)]
theorem part_form {p : ByteArray} {room : Nat} (h : p.size = 0 ∨ twiB p = true) : partV p room = (4, []) := by
  unfold partV
  exact if_pos h
theorem rangeV_some {a b : ByteArray} {room : Nat} (h : (rangeV a b room).1 = 0) : 0 < (rangeV a b room).2.length := by
  unfold rangeV at h ⊢
  by_cases h1 : codeB a = true ∧ codeB b = true
  · rw [if_pos h1] at h ⊢
    by_cases h2 : endsB a b = true
    · rw [if_pos h2] at h ⊢
      by_cases h3 : room ≤ numT b - numT a
      · rw [if_pos h3] at h; cases h
      · rw [if_neg h3]; simp
    · rw [if_neg h2] at h; cases h
  · rw [if_neg h1] at h; cases h
theorem flat_ones (l : List ByteArray) : (l.map fun x => [Value.string x]).flatten = l.map Value.string := by
  induction l with
  | nil => rfl
  | cons x l ih => rw [List.map_cons, List.flatten_cons, ih]; rfl
theorem at_many {S : Nat → Prop} {w : World} {A : Option Addr} {l : List ByteArray} (h : At kStr S w A l) (hn : 0 < l.length) :
    ∃ ad : Addr, A = some ad ∧ ∀ j u, (l.map fun x => [Value.string x]).flatten[j]? = some u → w.cell? (ad.add j) = some u := by
  obtain ⟨b, off, e, -, hlt, hc⟩ := h hn
  refine ⟨⟨b, off, none⟩, e, fun j u hu => ?_⟩
  rw [flat_ones, List.getElem?_map] at hu
  obtain ⟨x, hx, rfl⟩ := Option.map_eq_some_iff.1 hu
  obtain ⟨vs, rfl, hcell⟩ := hc j x hx
  rw [Addr.add_lit]
  simpa [kStr] using hcell 0 _ rfl
theorem rep_ones {S : Nat → Prop} {w : World} {l : List ByteArray} : ∀ (j : Nat) (x : ByteArray) (vs : List Value), l[j]? = some x → (l.map fun x => [Value.string x])[j]? = some vs → kStr.rep S w x vs := by
  intro j x vs h1 h2
  rw [List.getElem?_map, h1] at h2
  exact (Option.some.inj h2).symm
def ListSt (B : Nat) (w : World) (N : Nat) (ps : List ByteArray) (V : Nat × List ByteArray) (v i : Value) (wr : World) : Prop :=
  ∃ (k : Nat) (out : List ByteArray), k ≤ N ∧ i = .int .i64 k ∧ (0 < k → 0 < out.length) ∧ out.length ≤ 64 ∧ Own kStr 9 [] 0 B wr v out ∧ listF out (ps.drop k) = V ∧ Below B w wr
set_option maxHeartbeats 4000000 in
theorem list_walk (s : ByteArray) (w : World) (hS : Std w) (hs : s.size < 1073741824) :
    Calls Tryz.prog 80 #[.string s] w fun e w' => BetwIs (listV s) w e w' := by
  obtain ⟨V, hV⟩ : ∃ V, listV s = V := ⟨_, rfl⟩
  rw [hV]
  have hbig := hS.big
  by_cases h0 : s.size = 0
  · have e0 := isEmpty_true _ h0
    have e1 : s.toList = [] := List.isEmpty_iff.1 e0
    have hV' : V = (0, []) := by rw [← hV]; exact if_pos h0
    rw [hV']
    go_enter Tryz.func80, Tryz.ntmps80
    go_wp2
    go_ret2
    exact betw_none (Below.refl _ _)
  · have e0 := isEmpty_false _ h0
    have e1 : s.toList ≠ [] := fun e => by rw [e] at e0; cases e0
    obtain ⟨ps, hps⟩ : ∃ ps, partsOf s = ps := ⟨_, rfl⟩
    have hV' : listF [] ps = V := by rw [← hV, ← hps]; exact (if_neg h0).symm
    have hz : Lib.splitB ⟨#[59]⟩ 0 (Lib.countB s ⟨#[59]⟩) s = ps := by rw [← hps]; unfold partsOf; rw [if_neg h0]
    have hN : ps.length ≤ 1073741824 := by rw [← hps]; exact Nat.le_trans (partsOf_len s) (by omega)
    have hN1 : 0 < ps.length := by rw [← hz, splitB_len]; omega
    have hmem : ∀ p ∈ ps, p.size < 1073741824 := by rw [← hps]; intro p hp; have := partsOf_mem s p hp; omega
    have hsp := split_walk' 59 s ps hz (by omega) w hS
    obtain ⟨N, hNN⟩ : ∃ N, ps.length = N := ⟨_, rfl⟩
    rw [hNN] at hsp hN hN1
    replace hmem := hide hmem
    replace hNN := hide hNN
    clear hV hps hz
    go_enter Tryz.func80, Tryz.ntmps80
    go_wp2_with fail
    refine hsp.mono ?_
    clear hsp
    rintro e w2 ⟨rfl, hb2, hcl⟩
    have hS2 := hS.after hb2
    have hz2 := hb2.size
    have hlt2 : w.heap.size < w2.heap.size := by
      obtain ⟨z, hzz⟩ : ∃ z, ps[0]? = some z := ⟨_, List.getElem?_eq_getElem (by rw [hNN.out]; exact hN1)⟩
      exact World.block_lt_of_cell? _ _ (hcl 0 z hzz)
    replace hcl := hide hcl
    go_wp2_with fail
    go_loopw [4, 17] (fun v i wr => ListSt w2.heap.size w2 N ps V v i wr) (fun _ i _ => N - (intOf i).toNat)
    case atStart => exact ⟨0, [], Nat.zero_le _, rfl, fun h => absurd h (Nat.lt_irrefl _), Nat.zero_le _, Own.nil, hV', Below.refl _ _⟩
    case round =>
      obtain ⟨k, out, hk, rfl, hpos, hout, hown, hF, hb⟩ := hrel
      obtain ⟨A, c, rfl⟩ := hown.form
      have hS4 := hS2.after hb
      have hz4 := hb.size
      by_cases hlt : k < N
      · obtain ⟨p, hp⟩ : ∃ p, ps[k]? = some p := ⟨_, List.getElem?_eq_getElem (by rw [hNN.out]; exact hlt)⟩
        have hpz := hmem.out p (List.mem_of_getElem? hp)
        have hcell : wr.cell? ⟨w.heap.size, k, none⟩ = some (.string p) := ((bcell hb).1 _ _ hlt2).trans (hcl.out k p hp)
        have hdrop : ps.drop k = p :: ps.drop (k + 1) := by
          have hkl := (List.getElem?_eq_some_iff.1 hp).1
          rw [List.drop_eq_getElem_cons hkl]
          congr 1
          rw [List.getElem?_eq_getElem hkl] at hp
          exact Option.some.inj hp
        rw [hdrop] at hF
        have hcut := hide (cut2_walk p hpz)
        have hcon := hide (con2_walk p hpz)
        have hk0 : (0 : Int) ≤ (k : Int) := by omega
        have hk1 : (k : Int) < (N : Int) := by omega
        have hbw := hb2.trans (hb.mono hz2)
        by_cases hp0 : p.size = 0
        · have p0 := isEmpty_true _ hp0
          have p1 : p.toList = [] := List.isEmpty_iff.1 p0
          have hpv := part_form (p := p) (room := 64 - out.length) (.inl hp0)
          rw [listF_err (by rw [hpv]; simp), hpv] at hF
          subst hF
          clear hp hdrop hpv hp0 hcl hmem hNN hown hpos
          go_wp2_with (first | (go_at_call 108; (with_reducible refine (hcut.out _ ?_).mono ?_); exact hS4; rintro e w5 ⟨rfl, hb5⟩) | (go_at_call 109; (with_reducible refine (hcon.out _ ?_).mono ?_); exact hS4.after hb5; rintro e w6 ⟨rfl, rfl⟩) | (go_at_call 30; (with_reducible refine (cv.out _).mono ?_); rintro e w7 ⟨rfl, rfl⟩) | (go_at_call 110; (with_reducible refine (btw.out _ ?_).mono ?_); exact (hS4.after hb5).alloc _; rintro e w9 ⟨v9, rfl, hown9, hb9⟩))
          all_goals
            go_ret2
            exact betw_none (ext_trans hbw hb5)
        · have p0 := isEmpty_false _ hp0
          have p1 : p.toList ≠ [] := fun e => by rw [e] at p0; cases p0
          cases ht : twiB p with
          | true =>
            rw [ht] at hcon
            have hpv := part_form (p := p) (room := 64 - out.length) (.inr ht)
            rw [listF_err (by rw [hpv]; simp), hpv] at hF
            subst hF
            clear hp hdrop hpv hp0 hcl hmem hNN hown hpos ht
            go_wp2_with (first | (go_at_call 108; (with_reducible refine (hcut.out _ ?_).mono ?_); exact hS4; rintro e w5 ⟨rfl, hb5⟩) | (go_at_call 109; (with_reducible refine (hcon.out _ ?_).mono ?_); exact hS4.after hb5; rintro e w6 ⟨rfl, rfl⟩) | (go_at_call 30; (with_reducible refine (cv.out _).mono ?_); rintro e w7 ⟨rfl, rfl⟩) | (go_at_call 110; (with_reducible refine (btw.out _ ?_).mono ?_); exact (hS4.after hb5).alloc _; rintro e w9 ⟨v9, rfl, hown9, hb9⟩))
            all_goals
              go_ret2
              exact betw_none (ext_trans hbw hb5)
          | false =>
            rw [ht] at hcon
            cases h2 : dotT p with
            | false =>
              rw [h2] at hcut
              have hpv := part_one (room := 64 - out.length) hp0 ht h2
              have cv := hide (cvalid_walk p)
              cases hcb : codeB p with
              | false =>
                rw [hcb] at cv
                rw [if_neg (by rw [hcb]; simp)] at hpv
                rw [listF_err (by rw [hpv]; simp), hpv] at hF
                subst hF
                clear hp hdrop hpv hp0 hcl hmem hNN hown hpos ht h2 hcb
                go_wp2_with (first | (go_at_call 108; (with_reducible refine (hcut.out _ ?_).mono ?_); exact hS4; rintro e w5 ⟨rfl, hb5⟩) | (go_at_call 109; (with_reducible refine (hcon.out _ ?_).mono ?_); exact hS4.after hb5; rintro e w6 ⟨rfl, rfl⟩) | (go_at_call 30; (with_reducible refine (cv.out _).mono ?_); rintro e w7 ⟨rfl, rfl⟩) | (go_at_call 110; (with_reducible refine (btw.out _ ?_).mono ?_); exact (hS4.after hb5).alloc _; rintro e w9 ⟨v9, rfl, hown9, hb9⟩))
                all_goals
                  go_ret2
                  exact betw_none (ext_alloc (ext_trans hbw hb5) _)
              | true =>
                rw [hcb] at cv
                rw [if_pos hcb] at hpv
                rw [listF_ok hpv] at hF
                obtain ⟨out2, ho2⟩ : ∃ out2, out ++ [p] = out2 := ⟨_, rfl⟩
                have hl2 : out2.length = out.length + 1 := by rw [← ho2, List.length_append]; rfl
                rw [ho2] at hF
                clear hp hdrop hpv hp0 hpos ht h2 hcb
                go_wp2_with (first | (first | (go_at_call 108; (with_reducible refine (hcut.out _ ?_).mono ?_); exact hS4; rintro e w5 ⟨rfl, hb5⟩) | (go_at_call 109; (with_reducible refine (hcon.out _ ?_).mono ?_); exact hS4.after hb5; rintro e w6 ⟨rfl, rfl⟩) | (go_at_call 30; (with_reducible refine (cv.out _).mono ?_); rintro e w7 ⟨rfl, rfl⟩) | (go_at_call 110; (with_reducible refine (btw.out _ ?_).mono ?_); exact (hS4.after hb5).alloc _; rintro e w9 ⟨v9, rfl, hown9, hb9⟩)) | (at_builtin; refine wpList_own rfl _ _ rfl apd_strs (by decide) rfl ((hown.later hb5).alloc _) ?d1 (by decide) ⟨w6.heap.size, 0, none⟩ 1 rfl p [.string p] rfl (World.news_of_block (cs := #[.string p]) (t := 9) (fr := (0, 0)) (heap_alloc_new _ _)) (by decide) (Nat.zero_le _) ?d2 ?_))
                case d1 => omega
                case d2 => rw [World.size_alloc]; have := hb5.size; omega
                intro v8 w8 hown8 hgrow
                have hb8 := ((hown.later hb5).alloc _).below_grown (ext_alloc (hb.trans (hb5.mono hz4)) _) (Nat.le_refl _) hgrow
                obtain ⟨A2, c2, rfl⟩ := hown8.form
                clear hgrow hown ho2
                by_cases hfull : 64 < out2.length
                · have hfi : (64 : Int) < (out2.length : Int) := by omega
                  rw [if_pos hfull] at hF
                  subst hF
                  go_wp2
                  go_ret2
                  exact betw_none (hb2.trans (hb8.mono hz2))
                · have hfi : ¬ (64 : Int) < (out2.length : Int) := by omega
                  rw [if_neg hfull] at hF
                  go_wp2
                  go_roundw
                  case rel => exact ⟨k + 1, out2, by omega, by go_num, fun _ => by omega, by omega, hown8, hF, hb8⟩
                  case measure => simp [intOf]; omega
            | true =>
              rw [h2] at hcut
              have hpv := part_two (room := 64 - out.length) hp0 ht h2
              have hlen := rangeV_len (cutA p) (cutB p) (64 - out.length)
              have hsome := rangeV_some (a := cutA p) (b := cutB p) (room := 64 - out.length)
              have btw := between_walk (cutA p) (cutB p) (64 - out.length)
              obtain ⟨⟨en, more⟩, hr⟩ : ∃ r, rangeV (cutA p) (cutB p) (64 - out.length) = r := ⟨_, rfl⟩
              rw [hr] at hpv hlen hsome btw
              obtain ⟨a, ha⟩ : ∃ a, cutA p = a := ⟨_, rfl⟩
              obtain ⟨b, hbb⟩ : ∃ b, cutB p = b := ⟨_, rfl⟩
              rw [ha, hbb] at hcut btw
              rw [hbb] at hcon
              have hroom : (64 : Int) - (out.length : Int) = ((64 - out.length : Nat) : Int) := by omega
              obtain ⟨room, hrm⟩ : ∃ room, 64 - out.length = room := ⟨_, rfl⟩
              rw [hrm] at hlen btw hpv hroom
              have hr64 : room ≤ 64 := by omega
              have hwr : IntKind.i64.wrap ((64 : Int) - (out.length : Int)) = (room : Int) := by rw [IntKind.wrap_i64]; omega
              replace btw := hide (fun (W : World) (h : Std W) => btw W h hr64)
              clear hp hdrop hp0 hpos ht h2 ha hbb hr hroom
              by_cases hen : en = 0
              · subst hen
                have hm0 := hsome rfl
                rw [listF_ok (by rw [hrm]; exact hpv)] at hF
                obtain ⟨out2, ho2⟩ : ∃ out2, out ++ more = out2 := ⟨_, rfl⟩
                have hl2 : out2.length = out.length + more.length := by rw [← ho2, List.length_append]
                rw [ho2] at hF
                have hlen' : more.length ≤ room := hlen
                clear hsome hlen hpv
                replace ho2 := hide ho2
                go_wp2_with (first | (go_at_call 110; (with_reducible refine (btw.out _ ?_).mono ?_); exact (hS4.after hb5).alloc _; rintro e w9 ⟨v9, rfl, hown9, hb9⟩; obtain ⟨A9, c9, rfl⟩ := hown9.form; obtain ⟨ad, rfl, hnews⟩ := at_many hown9.any' hm0) | (first | (go_at_call 108; (with_reducible refine (hcut.out _ ?_).mono ?_); exact hS4; rintro e w5 ⟨rfl, hb5⟩) | (go_at_call 109; (with_reducible refine (hcon.out _ ?_).mono ?_); exact hS4.after hb5; rintro e w6 ⟨rfl, rfl⟩) | (go_at_call 30; (with_reducible refine (cv.out _).mono ?_); rintro e w7 ⟨rfl, rfl⟩) | (go_at_call 110; (with_reducible refine (btw.out _ ?_).mono ?_); exact (hS4.after hb5).alloc _; rintro e w9 ⟨v9, rfl, hown9, hb9⟩)) | (at_builtin; refine wpList_own_many rfl _ _ rfl apd_strs (by decide) rfl (((hown.later hb5).alloc _).later hb9) more (more.map fun x => [Value.string x]) (List.length_map _) ?d1 (by decide) ad more.length c9 rfl rfl rep_ones hnews (by decide) (Nat.zero_le _) ?d2 ?_))
                case d1 => omega
                case d2 => have := hb5.size; have := hb9.size; rw [World.size_alloc] at this; omega
                intro v8 w8 hown8 hgrow
                have hb8 := (((hown.later hb5).alloc _).later hb9).below_grown ((ext_alloc (hb.trans (hb5.mono hz4)) _).trans (hb9.mono (by rw [World.size_alloc]; have := hb5.size; omega))) (Nat.le_refl _) hgrow
                rw [ho2.out] at hown8
                obtain ⟨A2, c2, rfl⟩ := hown8.form
                clear hgrow hown ho2 hown9 hb9 hnews
                have hfi : ¬ (64 : Int) < (out2.length : Int) := by omega
                rw [if_neg (by omega)] at hF
                go_wp2
                go_roundw
                case rel => exact ⟨k + 1, out2, by omega, by go_num, fun _ => by omega, by omega, hown8, hF, hb8⟩
                case measure => simp [intOf]; omega
              · have heni : ¬ (en : Int) = 0 := by omega
                rw [listF_err (by rw [hrm, hpv]; exact hen), hrm, hpv] at hF
                subst hF
                clear hsome hlen hpv hcl hmem hNN hown
                go_wp2_with (first | (go_at_call 108; (with_reducible refine (hcut.out _ ?_).mono ?_); exact hS4; rintro e w5 ⟨rfl, hb5⟩) | (go_at_call 109; (with_reducible refine (hcon.out _ ?_).mono ?_); exact hS4.after hb5; rintro e w6 ⟨rfl, rfl⟩) | (go_at_call 30; (with_reducible refine (cv.out _).mono ?_); rintro e w7 ⟨rfl, rfl⟩) | (go_at_call 110; (with_reducible refine (btw.out _ ?_).mono ?_); exact (hS4.after hb5).alloc _; rintro e w9 ⟨v9, rfl, hown9, hb9⟩))
                all_goals
                  go_ret2
                  exact betw_none (ext_trans (ext_alloc (ext_trans hbw hb5) _) hb9)
      · obtain rfl : k = N := by omega
        rw [List.drop_of_length_le (by rw [hNN.out]; exact Nat.le_refl _)] at hF
        have hon := hpos hN1
        obtain ⟨A', c', e, hc, hat⟩ := hown.any
        injection e with e1 e2 e3
        subst e1 e3
        have hrep := repeated_walk A out c wr hon (by omega) hat.any
        rw [listF] at hF
        have hbw := hb2.trans (hb.mono hz2)
        cases hd : decide out.Nodup with
        | true =>
          rw [if_pos (of_decide_eq_true hd)] at hF
          rw [hd] at hrep
          subst hF
          clear hd hcl hmem hNN hat hpos
          go_wp2_with fail
          refine hrep.mono ?_
          clear hrep
          rintro e w5 ⟨rfl, hb5⟩
          go_wp2
          go_ret2
          exact ⟨_, rfl, (hown.lower hz2).later hb5, ext_trans hbw hb5⟩
        | false =>
          rw [if_neg (of_decide_eq_false hd)] at hF
          rw [hd] at hrep
          subst hF
          clear hd hcl hmem hNN hat hpos
          go_wp2_with fail
          refine hrep.mono ?_
          clear hrep
          rintro e w5 ⟨rfl, hb5⟩
          go_wp2
          go_ret2
          exact betw_none (ext_trans hbw hb5)
end Go.Proofs.YtnbcaklnpflihaaGreatDoor

namespace Go.Proofs.YtnbcaklnpflihaaGreatDoor
open Go.RowKit
set_option maxRecDepth 100000

theorem decd_big {n : Nat} (h : ¬ n < 10) : Lib.decDigits n = Lib.decDigits (n / 10) ++ [UInt8.ofNat (48 + n % 10)] := by rw [Lib.decDigits, dif_neg h]
theorem digval_fin : ∀ d : Fin 10, Lib.digitVal (UInt8.ofNat (48 + d.val)) = some d.val := by decide +kernel
theorem digval {d : Nat} (h : d < 10) : Lib.digitVal (UInt8.ofNat (48 + d)) = some d := digval_fin ⟨d, h⟩
theorem decFrom_snoc {l : List UInt8} {a n d : Nat} {b : UInt8} (h : Lib.decFrom a l = some n) (hb : Lib.digitVal b = some d) : Lib.decFrom a (l ++ [b]) = some (n * 10 + d) := by
  have h1 := Lib.decFrom_take (l ++ [b]) l.length a n b d (by rw [List.take_left]; exact h) (by simp) hb
  rw [List.take_of_length_le (by simp)] at h1
  exact h1
theorem read_decd (n : Nat) : Lib.decFrom 0 (Lib.decDigits n) = some n := by
  induction n using Nat.strongRecOn with
  | _ n ih =>
    by_cases h : n < 10
    · rw [Lib.decDigits_one h, Lib.decFrom, digval h]
      simp [Lib.decFrom]
    · rw [decd_big h, decFrom_snoc (ih (n / 10) (by omega)) (digval (Nat.mod_lt _ (by decide)))]
      congr 1
      omega
theorem read_zeros (l : List UInt8) : ∀ k, Lib.decFrom 0 (List.replicate k 48 ++ l) = Lib.decFrom 0 l
  | 0 => by simp
  | k + 1 => by
    rw [List.replicate_succ, List.cons_append, Lib.decFrom, show Lib.digitVal 48 = some 0 from by decide]
    exact read_zeros l k
theorem wrL_eq (n w : Nat) : wrL n w = List.replicate (w - Lib.nDigits n) 48 ++ Lib.decDigits n := by
  unfold wrL
  rw [Lib.itoa_nonneg, Lib.decDigits_length]
theorem read_wrL (n w : Nat) : Lib.decFrom 0 (wrL n w) = some n := by rw [wrL_eq, read_zeros, read_decd]
theorem val_wrL (n w : Nat) : valL (wrL n w) = n := by unfold valL; rw [read_wrL]; rfl
theorem len_wrL (n w : Nat) : (wrL n w).length = max w (Lib.nDigits n) := by
  rw [wrL_eq, List.length_append, List.length_replicate, Lib.decDigits_length]; omega
theorem digs_of {l : List UInt8} {n : Nat} (h : Lib.decFrom 0 l = some n) : ∀ b ∈ l, digN b.toNat = true := by
  intro b hb
  obtain ⟨k, hk⟩ := List.getElem?_of_mem hb
  obtain ⟨d, hd⟩ := Lib.digit_of_decFrom l 0 n h k b hk
  unfold Lib.digitVal at hd
  split at hd
  · rename_i h2; exact decide_eq_true h2
  · cases hd
theorem digs_wrL (n w : Nat) : ∀ b ∈ wrL n w, digN b.toNat = true := digs_of (read_wrL n w)
theorem nDigits_mono : ∀ (m n : Nat), n ≤ m → Lib.nDigits n ≤ Lib.nDigits m := by
  intro m
  induction m using Nat.strongRecOn with
  | _ m ih =>
    intro n h
    by_cases h1 : n < 10
    · rw [Lib.nDigits_small h1]; exact Lib.nDigits_pos m
    · rw [Lib.nDigits_big h1, Lib.nDigits_big (u := m) (by omega)]
      exact Nat.succ_le_succ (ih (m / 10) (by omega) (n / 10) (by omega))
theorem nDigits_le : ∀ (k n : Nat), n < 10 ^ (k + 1) → Lib.nDigits n ≤ k + 1
  | 0, n, h => by rw [Lib.nDigits_small (by simpa using h)]; exact Nat.le_refl _
  | k + 1, n, h => by
    by_cases h1 : n < 10
    · rw [Lib.nDigits_small h1]; omega
    · rw [Lib.nDigits_big h1]
      have := nDigits_le k (n / 10) (by rw [Nat.pow_succ] at h; omega)
      omega
/-- Numbers that are not less have not fewer digits: the wider width is as good. -/
theorem wrL_max {n m w : Nat} (h : n ≤ m) : wrL m (max w (Lib.nDigits n)) = wrL m w := by
  have := nDigits_mono m n h
  rw [wrL_eq, wrL_eq, show max w (Lib.nDigits n) - Lib.nDigits m = w - Lib.nDigits m from by omega]
/-! Where the last number begins. -/
theorem dgAt_mk (l : List UInt8) (j : Nat) : dgAt (mkB l) j = digN (l.getD j 0).toNat := by unfold dgAt; rw [mkB_list]
theorem tlN_digits (s : ByteArray) (n : Nat) : ∀ k, (∀ j, j < k → dgAt s (n + j) = true) → tlN s (n + k) = tlN s n
  | 0, _ => rfl
  | k + 1, h => by
    rw [show n + (k + 1) = (n + k) + 1 from rfl, tlN, if_pos (h k (Nat.lt_succ_self _))]
    exact tlN_digits s n k fun j hj => h j (by omega)
theorem tail_app (p ds : List UInt8) (hd : ∀ b ∈ ds, digN b.toNat = true) (hp : ∀ q b, p = q ++ [b] → digN b.toNat = false) : tailAt (mkB (p ++ ds)) = p.length := by
  unfold tailAt
  rw [mkB_size, List.length_append, tlN_digits _ p.length ds.length]
  · rcases List.eq_nil_or_concat p with rfl | ⟨q, b, e⟩
    · rfl
    · rw [List.concat_eq_append] at e
      subst e
      rw [List.length_append]
      show tlN _ (q.length + 1) = q.length + 1
      rw [tlN, if_neg]
      rw [dgAt_mk]
      simp only [List.append_assoc, List.getD_eq_getElem?_getD]
      rw [List.getElem?_append_right (Nat.le_refl _)]
      simp [hp q b rfl]
  · intro j hj
    rw [dgAt_mk, List.getD_eq_getElem?_getD, List.getElem?_append_right (by omega), show p.length + j - p.length = j from by omega, List.getElem?_eq_getElem hj]
    exact hd _ (List.getElem_mem _)
theorem pre_app {p ds : List UInt8} (hd : ∀ b ∈ ds, digN b.toNat = true) (hp : ∀ q b, p = q ++ [b] → digN b.toNat = false) : preL (mkB (p ++ ds)) = p := by
  unfold preL; rw [tail_app p ds hd hp, mkB_list, List.take_left]
theorem num_app {p ds : List UInt8} (hd : ∀ b ∈ ds, digN b.toNat = true) (hp : ∀ q b, p = q ++ [b] → digN b.toNat = false) : numT (mkB (p ++ ds)) = valL ds := by
  unfold numT; rw [tail_app p ds hd hp, mkB_list, List.drop_left]
theorem wid_app {p ds : List UInt8} (hd : ∀ b ∈ ds, digN b.toNat = true) (hp : ∀ q b, p = q ++ [b] → digN b.toNat = false) : widT (mkB (p ++ ds)) = ds.length := by
  unfold widT; rw [tail_app p ds hd hp, mkB_size, List.length_append]; omega
/-- The prefix of a code ends with no digit. -/
theorem pre_end (a : ByteArray) : ∀ q b, preL a = q ++ [b] → digN b.toNat = false := by
  intro q b h
  have hl := congrArg List.length h
  unfold preL at h hl
  rw [List.length_take, len_size, List.length_append] at hl
  have hle := tail_le a
  have ht : tailAt a = q.length + 1 := by simp at hl; omega
  have hd : dgAt a q.length = false := by
    cases hc : dgAt a q.length with
    | false => rfl
    | true =>
      exfalso
      -- the search stopped at a place behind a digit
      have hst : ∀ n, tlN a n = q.length + 1 → q.length + 1 ≤ n → False := by
        intro n
        induction n with
        | zero => intro _ h2; omega
        | succ n ih =>
          intro h1 h2
          rw [tlN] at h1
          split at h1
          · rename_i hdn
            by_cases e : n = q.length
            · have := tlN_le a n; omega
            · exact ih h1 (by omega)
          · rename_i hdn
            have : n = q.length := by omega
            rw [this] at hdn; exact hdn hc
      exact hst a.size ht (by omega)
  rw [ht] at h
  unfold dgAt at hd
  have hb : a.data.toList[q.length]? = some b := by
    have := congrArg (fun l : List UInt8 => l[q.length]?) h
    rw [List.getElem?_take, if_pos (by omega)] at this
    rw [this]; simp
  rw [List.getD_eq_getElem?_getD, hb] at hd
  exact hd
theorem ran_pre (a : ByteArray) (k : Nat) : preL (ranF a k) = preL a := pre_app (digs_wrL _ _) (pre_end a)
theorem ran_num (a : ByteArray) (k : Nat) : numT (ranF a k) = numT a + k := (num_app (digs_wrL _ _) (pre_end a)).trans (val_wrL _ _)
theorem ran_tail (a : ByteArray) (k : Nat) : tailAt (ranF a k) < (ranF a k).size := by
  unfold ranF
  rw [tail_app _ _ (digs_wrL _ _) (pre_end a), mkB_size, List.length_append, len_wrL]
  have := Lib.nDigits_pos (numT a + k)
  omega
theorem ran_inj (a : ByteArray) {j k : Nat} (h : ranF a j = ranF a k) : j = k := by
  have := congrArg numT h
  rw [ran_num, ran_num] at this
  omega
theorem ran_nodup (a : ByteArray) (n : Nat) : ((List.range n).map (ranF a)).Nodup := by
  unfold List.Nodup
  rw [List.pairwise_map]
  exact List.Pairwise.imp (fun h e => h (ran_inj a e)) List.nodup_range
/-! Cutting at the first two dots. -/
theorem idx_dots : ∀ (x y : List UInt8), (46 : UInt8) ∉ x → Lib.index (x ++ 46 :: 46 :: y) [46, 46] = x.length
  | [], y, _ => by
    rw [List.nil_append, Lib.index, if_pos (by simp [List.isPrefixOf])]; rfl
  | c :: x, y, h => by
    have hc : ¬ c = 46 := fun e => h (by simp [e])
    have hx : (46 : UInt8) ∉ x := fun e => h (List.mem_cons_of_mem _ e)
    rw [List.cons_append, Lib.index, if_neg (by simp [List.isPrefixOf, Ne.symm hc]), idx_dots x y hx, if_neg (by rw [beq_iff_eq]; omega)]
    rfl
theorem idx_free : ∀ y : List UInt8, (46 : UInt8) ∉ y → Lib.index y [46, 46] = -1
  | [], _ => rfl
  | c :: y, h => by
    have hc : ¬ c = 46 := fun e => h (by simp [e])
    have hy : (46 : UInt8) ∉ y := fun e => h (List.mem_cons_of_mem _ e)
    rw [Lib.index, if_neg (by simp [List.isPrefixOf, Ne.symm hc]), idx_free y hy]
    rfl
theorem cut_dots {x y : List UInt8} (hx : (46 : UInt8) ∉ x) : Lib.cut (x ++ 46 :: 46 :: y) [46, 46] = (x, y, true) := by
  unfold Lib.cut
  rw [idx_dots x y hx, if_pos (by omega), show ((x.length : Int)).toNat = x.length from by omega, List.take_left]
  congr 2
  rw [show x.length + ([46, 46] : List UInt8).length = x.length + 2 from rfl, ← List.drop_drop, List.drop_left]
  rfl
theorem cut_free {y : List UInt8} (hy : (46 : UInt8) ∉ y) : Lib.cut y [46, 46] = (y, [], false) := by
  unfold Lib.cut
  rw [idx_free y hy, if_neg (by omega)]
theorem con_free {y : List UInt8} (hy : (46 : UInt8) ∉ y) : Lib.contains y [46, 46] = false := by
  unfold Lib.contains
  rw [idx_free y hy]; rfl
/-! What a code's bytes are. -/
theorem codeTo_iff (s : ByteArray) : ∀ n, codeTo s n = true ↔ ∀ k, k < n → signN k (s.data.toList.getD k 0).toNat = true
  | 0 => ⟨fun _ k h => by omega, fun _ => rfl⟩
  | n + 1 => by
    rw [codeTo, Bool.and_eq_true, codeTo_iff s n]
    constructor
    · rintro ⟨h1, h2⟩ k hk
      by_cases e : k = n
      · rw [e]; exact h2
      · exact h1 k (by omega)
    · intro h
      exact ⟨fun k hk => h k (by omega), h n (Nat.lt_succ_self _)⟩
theorem code_sign {s : ByteArray} (h : codeB s = true) : ∀ b ∈ s.data.toList, ∃ k, signN k b.toNat = true := by
  have hsz := code_size h
  rw [codeB_yes hsz, codeTo_iff] at h
  intro b hb
  obtain ⟨k, hk⟩ := List.getElem?_of_mem hb
  have hl := (List.getElem?_eq_some_iff.1 hk).1
  rw [len_size] at hl
  refine ⟨k, ?_⟩
  have := h k hl
  rw [List.getD_eq_getElem?_getD, hk] at this
  exact this
theorem code_no46 {s : ByteArray} (h : codeB s = true) : (46 : UInt8) ∉ s.data.toList := by
  intro hb
  obtain ⟨k, hk⟩ := code_sign h 46 hb
  simp [signN, digN, letN, dashN] at hk
theorem code_no59 {s : ByteArray} (h : codeB s = true) : (59 : UInt8) ∉ s.data.toList := by
  intro hb
  obtain ⟨k, hk⟩ := code_sign h 59 hb
  simp [signN, digN, letN, dashN] at hk
theorem code_mk {c : UInt8} {ds : List UInt8} (hc : letN c.toNat = true) (hd : ∀ b ∈ ds, digN b.toNat = true) (hl : ds.length ≤ 15) : codeB (mkB (c :: ds)) = true := by
  have hsz : (mkB (c :: ds)).size = ds.length + 1 := by rw [mkB_size]; rfl
  rw [codeB_yes ⟨by omega, by omega⟩, codeTo_iff]
  intro k hk
  rw [mkB_list]
  cases k with
  | zero => simp [signN, hc]
  | succ k =>
    have hk' : k < ds.length := by omega
    have : digN ((c :: ds).getD (k + 1) 0).toNat = true := by
      rw [List.getD_cons_succ, List.getD_eq_getElem?_getD, List.getElem?_eq_getElem hk']
      exact hd _ (List.getElem_mem _)
    unfold signN
    rw [this]; rfl
theorem dat_inj {X Y : ByteArray} (h : X.data.toList = Y.data.toList) : X = Y := by rw [mkB_of h]; rfl
theorem parts_lone {s : ByteArray} (h0 : s.size ≠ 0) (h : (59 : UInt8) ∉ s.data.toList) : partsOf s = [s] := by
  have h1 := parts_split h0
  rw [splitOn1_end _ h] at h1
  match hp : partsOf s with
  | [] => rw [hp] at h1; cases h1
  | [p] => rw [hp] at h1; rw [dat_inj (List.cons.inj h1).1]
  | _ :: _ :: _ => rw [hp] at h1; simp at h1
/-- What the part a..b of a list says. -/
theorem part_ran {a b : ByteArray} (ha : (46 : UInt8) ∉ a.data.toList) (hb : (46 : UInt8) ∉ b.data.toList) (room : Nat) : partV (mkB (a.data.toList ++ 46 :: 46 :: b.data.toList)) room = rangeV a b room := by
  have hc : Lib.cut (mkB (a.data.toList ++ 46 :: 46 :: b.data.toList)).data.toList [46, 46] = (a.data.toList, b.data.toList, true) := by rw [mkB_list]; exact cut_dots ha
  unfold partV
  rw [hc, if_neg, if_pos rfl]
  · rw [← mkB_of (X := a) rfl, ← mkB_of (X := b) rfl]
  · rintro (h | h)
    · rw [mkB_size, List.length_append] at h; simp at h
    · rw [con_free hb] at h; cases h
theorem part_code {p : ByteArray} (h : codeB p = true) (room : Nat) : partV p room = (0, [p]) := by
  have hc := cut_free (code_no46 h)
  unfold partV
  rw [hc, if_neg, if_neg (by simp), if_pos h]
  rintro (h' | h')
  · have := code_size h; omega
  · cases h'
/-- Are the ends of a range. -/
theorem ends_ran {a : ByteArray} {k : Nat} (ht : tailAt a < a.size) : endsB a (ranF a k) = true := by
  refine decide_eq_true ⟨ht, ran_tail a k, (ran_pre a k).symm, by rw [ran_num]; omega, ?_⟩
  rw [ran_num]
  exact (mkB_list _).symm
def wideA (n w : Nat) : ByteArray := mkB (80 :: wrL n w)
theorem wide_code {n w : Nat} (h : n < 10000) (hw : w ≤ 10) : codeB (wideA n w) = true := by
  have := nDigits_le 3 n (by omega)
  exact code_mk (by decide) (digs_wrL n w) (by rw [len_wrL]; omega)
theorem p_end : ∀ (q : List UInt8) (b : UInt8), [(80 : UInt8)] = q ++ [b] → digN b.toNat = false := by
  intro q b h
  have := List.append_inj_right' (s₁ := []) (t₁ := [(80 : UInt8)]) (s₂ := q) (t₂ := [b]) h rfl
  obtain rfl := (List.cons.inj this).1
  rfl
theorem wide_pre (n w : Nat) : preL (wideA n w) = [80] := pre_app (p := [80]) (digs_wrL n w) p_end
theorem wide_num (n w : Nat) : numT (wideA n w) = n := (num_app (p := [80]) (digs_wrL n w) p_end).trans (val_wrL n w)
theorem wide_wid (n w : Nat) : widT (wideA n w) = max w (Lib.nDigits n) := (wid_app (p := [80]) (digs_wrL n w) p_end).trans (len_wrL n w)
theorem wide_ran (n w k : Nat) : ranF (wideA n w) k = wideA (n + k) (max w (Lib.nDigits n)) := by
  unfold ranF; rw [wide_pre, wide_num, wide_wid]; rfl
theorem wide_tail (n w : Nat) : tailAt (wideA n w) < (wideA n w).size := by
  have h1 := tail_app [80] (wrL n w) (digs_wrL n w) p_end
  have h2 : (wideA n w).size = (wrL n w).length + 1 := mkB_size _
  have h3 := len_wrL n w
  have := Lib.nDigits_pos n
  show tailAt (mkB ([80] ++ wrL n w)) < _
  rw [h1]
  simp
  omega
/-- What the list says that is one range of such codes. -/
theorem list_wide {n k w : Nat} (hn : n < 2000) (hk : k < 100) (hw : w ≤ 10) :
    listV (mkB ((wideA n w).data.toList ++ 46 :: 46 :: (wideA (n + k) w).data.toList)) = if 64 ≤ k then (2, []) else (0, (List.range (k + 1)).map fun i => wideA (n + i) (max w (Lib.nDigits n))) := by
  have ca := wide_code (n := n) (w := w) (by omega) hw
  have cb := wide_code (n := n + k) (w := w) (by omega) hw
  have h0 : (mkB ((wideA n w).data.toList ++ 46 :: 46 :: (wideA (n + k) w).data.toList)).size ≠ 0 := by rw [mkB_size]; simp
  unfold listV
  rw [if_neg h0, parts_lone h0 (by
    rw [mkB_list]
    intro h
    rcases List.mem_append.1 h with h | h
    · exact code_no59 ca h
    · rcases List.mem_cons.1 h with h | h
      · cases h
      · rcases List.mem_cons.1 h with h | h
        · cases h
        · exact code_no59 cb h)]
  have hb : wideA (n + k) w = ranF (wideA n w) k := by
    rw [wide_ran]; unfold wideA; rw [wrL_max (by omega)]
  have hp : partV (mkB ((wideA n w).data.toList ++ 46 :: 46 :: (wideA (n + k) w).data.toList)) 64 = if 64 ≤ k then (2, []) else (0, (List.range (k + 1)).map fun i => wideA (n + i) (max w (Lib.nDigits n))) := by
    rw [part_ran (code_no46 ca) (code_no46 cb)]
    unfold rangeV
    rw [if_pos ⟨ca, cb⟩, if_pos (by rw [hb]; exact ends_ran (wide_tail n w)), wide_num, wide_num, show n + k - n = k from by omega]
    have hf : ranF (wideA n w) = fun i => wideA (n + i) (max w (Lib.nDigits n)) := funext fun i => wide_ran n w i
    rw [hf]
  rw [listF]
  simp only [List.length_nil, Nat.sub_zero, List.nil_append]
  rw [hp]
  by_cases h : 64 ≤ k
  · rw [if_pos h, if_pos (by simp)]
  · rw [if_neg h, if_neg (by simp), if_neg (by simp; omega), listF, if_pos]
    have := ran_nodup (wideA n w) (k + 1)
    rw [show (ranF (wideA n w)) = fun i => wideA (n + i) (max w (Lib.nDigits n)) from funext fun i => wide_ran n w i] at this
    exact this
end Go.Proofs.YtnbcaklnpflihaaGreatDoor

namespace Go.Proofs.YtnbcaklnpflihaaGreatDoor
open Go.RowKit
set_option maxRecDepth 100000

/-- A class: code, course, part, length, patterns, seats, features, staff, starts. -/
abbrev Cls := ByteArray × ByteArray × ByteArray × Int × List Int × Int × List ByteArray × List ByteArray × List (Int × Int)
def kStart : Kind (Int × Int) := kPair kInt kInt
def kCls : Kind Cls := kPair kStr (kPair kStr (kPair kStr (kPair kInt (kPair (kSlice kInt) (kPair kInt (kPair (kSlice kStr) (kPair (kSlice kStr) (kSlice kStart))))))))
def Cls.course (x : Cls) : ByteArray := x.2.1
def Cls.part (x : Cls) : ByteArray := x.2.2.1
/-- Are two classes parallel. -/
def parB (x y : Cls) : Bool := decide (x.2.1 = y.2.1 ∧ x.2.2.1 = y.2.2.1)
/-- The nine values of a class. -/
structure Nine where
  z : ByteArray
  co : ByteArray
  pa : ByteArray
  n : Int
  A4 : Option Addr
  n4 : Nat
  c4 : Nat
  m : Int
  A6 : Option Addr
  n6 : Nat
  c6 : Nat
  A7 : Option Addr
  n7 : Nat
  c7 : Nat
  A8 : Option Addr
  n8 : Nat
  c8 : Nat
/-- A class's cells from a place on. -/
def NineAt (w : World) (b o : Nat) (q : Nine) : Prop :=
  w.cell? ⟨b, o, none⟩ = some (.string q.z) ∧ w.cell? ⟨b, o + 1, none⟩ = some (.string q.co) ∧ w.cell? ⟨b, o + 2, none⟩ = some (.string q.pa) ∧ w.cell? ⟨b, o + 3, none⟩ = some (.int .i64 q.n) ∧ w.cell? ⟨b, o + 4, none⟩ = some (.slice q.A4 q.n4 q.c4) ∧ w.cell? ⟨b, o + 5, none⟩ = some (.int .i64 q.m) ∧ w.cell? ⟨b, o + 6, none⟩ = some (.slice q.A6 q.n6 q.c6) ∧ w.cell? ⟨b, o + 7, none⟩ = some (.slice q.A7 q.n7 q.c7) ∧ w.cell? ⟨b, o + 8, none⟩ = some (.slice q.A8 q.n8 q.c8)
theorem NineAt.later {w w' : World} {b o : Nat} {q : Nine} (h : NineAt w b o q) (hb : Below w.heap.size w w') : NineAt w' b o q := by
  obtain ⟨h0, h1, h2, h3, h4, h5, h6, h7, h8⟩ := h
  exact ⟨cell_later hb h0, cell_later hb h1, cell_later hb h2, cell_later hb h3, cell_later hb h4, cell_later hb h5, cell_later hb h6, cell_later hb h7, cell_later hb h8⟩
theorem At.cls {S : Nat → Prop} {w : World} {A : Option Addr} {l : List Cls} {j : Nat} {x : Cls} (h : At kCls S w A l) (hj : l[j]? = some x) :
    ∃ b off q, A = some ⟨b, off, none⟩ ∧ S b ∧ b < w.heap.size ∧ NineAt w b (off + j * 9) q ∧ q.co = x.2.1 ∧ q.pa = x.2.2.1 := by
  obtain ⟨b, off, vs, e, hs, hlt, hr, hc⟩ := h.get hj
  obtain ⟨u0, r0, e0, h0, hr⟩ := hr
  obtain ⟨u1, r1, e1, h1, hr⟩ := hr
  obtain ⟨u2, r2, e2, h2, hr⟩ := hr
  obtain ⟨u3, r3, e3, h3, hr⟩ := hr
  obtain ⟨u4, r4, e4, h4, hr⟩ := hr
  obtain ⟨u5, r5, e5, h5, hr⟩ := hr
  obtain ⟨u6, r6, e6, h6, hr⟩ := hr
  obtain ⟨u7, u8, e7, h7, h8⟩ := hr
  obtain ⟨A4, c4, rfl, -, -⟩ := h4
  obtain ⟨A6, c6, rfl, -, -⟩ := h6
  obtain ⟨A7, c7, rfl, -, -⟩ := h7
  obtain ⟨A8, c8, rfl, -, -⟩ := h8
  have h0 : u0 = [.string x.1] := h0
  have h1 : u1 = [.string x.2.1] := h1
  have h2 : u2 = [.string x.2.2.1] := h2
  have h3 : u3 = [.int .i64 x.2.2.2.1] := h3
  have h5 : u5 = [.int .i64 x.2.2.2.2.2.1] := h5
  subst h0 h1 h2 h3 h5 e7 e6 e5 e4 e3 e2 e1 e0
  have hk : ∀ i u, ([Value.string x.1, .string x.2.1, .string x.2.2.1, .int .i64 x.2.2.2.1, .slice A4 x.2.2.2.2.1.length c4, .int .i64 x.2.2.2.2.2.1, .slice A6 x.2.2.2.2.2.2.1.length c6, .slice A7 x.2.2.2.2.2.2.2.1.length c7, .slice A8 x.2.2.2.2.2.2.2.2.length c8] : List Value)[i]? = some u → w.cell? ⟨b, off + j * 9 + i, none⟩ = some u := hc
  exact ⟨b, off, ⟨x.1, x.2.1, x.2.2.1, x.2.2.2.1, A4, x.2.2.2.2.1.length, c4, x.2.2.2.2.2.1, A6, x.2.2.2.2.2.2.1.length, c6, A7, x.2.2.2.2.2.2.2.1.length, c7, A8, x.2.2.2.2.2.2.2.2.length, c8⟩, e, hs, hlt,
    ⟨hk 0 _ rfl, hk 1 _ rfl, hk 2 _ rfl, hk 3 _ rfl, hk 4 _ rfl, hk 5 _ rfl, hk 6 _ rfl, hk 7 _ rfl, hk 8 _ rfl⟩, rfl, rfl⟩
theorem toList_noP {X Y : ByteArray} (h : ¬ X = Y) : (X.toList == Y.toList) = false := toList_no fun e => h (dat_inj e)
def Nine.val (q : Nine) : Value := .agg #[.string q.z, .string q.co, .string q.pa, .int .i64 q.n, .slice q.A4 q.n4 q.c4, .int .i64 q.m, .slice q.A6 q.n6 q.c6, .slice q.A7 q.n7 q.c7, .slice q.A8 q.n8 q.c8]
-- <par>
end Go.Proofs.YtnbcaklnpflihaaGreatDoor

namespace Go.Proofs.YtnbcaklnpflihaaGreatDoor
open Go.RowKit
set_option maxRecDepth 100000

/-- Is no one of the first n classes, but class i, parallel to x. -/
def singTo (l : List Cls) (x : Cls) (i : Nat) : Nat → Bool
  | 0 => true
  | n + 1 => singTo l x i n && (decide (n = i) || !(match l[n]? with | some y => parB x y | none => false))
def singB (l : List Cls) (i : Nat) : Bool := match l[i]? with | some x => singTo l x i l.length | none => false
theorem nine_new (w : World) (r : Nine) (t : TypeId) : NineAt (w.alloc (.cells #[.string r.z, .string r.co, .string r.pa, .int .i64 r.n, .slice r.A4 r.n4 r.c4, .int .i64 r.m, .slice r.A6 r.n6 r.c6, .slice r.A7 r.n7 r.c7, .slice r.A8 r.n8 r.c8] t)) w.heap.size 0 r := by
  refine ⟨?_, ?_, ?_, ?_, ?_, ?_, ?_, ?_, ?_⟩ <;> simp
theorem singTo_false {l : List Cls} {x : Cls} {i k : Nat} (h : singTo l x i k = false) : ∀ n, k ≤ n → singTo l x i n = false
  | 0, hk => by
    have e : k = 0 := by omega
    rw [e] at h
    exact h
  | n + 1, hk => by
    by_cases e : k = n + 1
    · rw [← e]; exact h
    · rw [singTo, singTo_false h n (by omega), Bool.false_and]
end Go.Proofs.YtnbcaklnpflihaaGreatDoor

namespace Go.Proofs.YtnbcaklnpflihaaGreatDoor
open Go.RowKit
set_option maxRecDepth 100000

def pairI (i k : Nat) : Int × Int := ((i : Int), (k : Int))
/-- Each with each later one. -/
def pairsL : List Nat → List (Int × Int)
  | [] => []
  | i :: r => r.map (pairI i) ++ pairsL r
/-- The same, where only those that are fit count. -/
def refL (ok : Nat → Bool) : List Nat → List (Int × Int)
  | [] => []
  | i :: r => (r.filter fun k => ok i && ok k).map (pairI i) ++ refL ok r
theorem refL_eq (ok : Nat → Bool) : ∀ l : List Nat, refL ok l = pairsL (l.filter ok)
  | [] => rfl
  | i :: r => by
    rw [refL, refL_eq ok r]
    cases h : ok i with
    | true => rw [List.filter_cons_of_pos h, pairsL]; simp only [Bool.true_and]
    | false => rw [List.filter_cons_of_neg (by rw [h]; simp)]; simp
/-- Is class i of the courses cs, and has it no parallel one. -/
def okC (cs : List ByteArray) (l : List Cls) (i : Nat) : Bool := match l[i]? with | some x => decide (0 ≤ idxS x.2.1 cs) && singB l i | none => false
def pairsV (cs : List ByteArray) (l : List Cls) : List (Int × Int) := pairsL ((List.range l.length).filter (okC cs l))
theorem range_drop {N i : Nat} (h : i < N) : (List.range N).drop i = i :: (List.range N).drop (i + 1) := by
  rw [List.drop_eq_getElem_cons (by simpa using h)]
  simp
theorem pairsL_len : ∀ l : List Nat, (pairsL l).length ≤ l.length * l.length
  | [] => Nat.le_refl _
  | i :: r => by
    rw [pairsL, List.length_append, List.length_map]
    have := pairsL_len r
    simp only [List.length_cons]
    have h2 : (r.length + 1) * (r.length + 1) = r.length * r.length + r.length + r.length + 1 := by
      rw [Nat.add_mul, Nat.mul_add]; omega
    omega
end Go.Proofs.YtnbcaklnpflihaaGreatDoor

namespace Go.Proofs.YtnbcaklnpflihaaGreatDoor
open Go.RowKit
set_option maxRecDepth 100000

/-! Digits written in their own width are themselves. -/
theorem wr_snoc (n w : Nat) (hw : 1 ≤ w) : wrL n (w + 1) = wrL (n / 10) w ++ [UInt8.ofNat (48 + n % 10)] := by
  rw [wrL_eq, wrL_eq]
  by_cases h : n < 10
  · obtain ⟨v, rfl⟩ : ∃ v, w = v + 1 := ⟨w - 1, by omega⟩
    rw [Lib.nDigits_small h, Lib.decDigits_one h, show n / 10 = 0 from by omega, Lib.nDigits_small (u := 0) (by decide), Lib.decDigits_one (i := 0) (by decide), Nat.mod_eq_of_lt h]
    simp only [Nat.add_sub_cancel]
    rw [List.replicate_succ', List.append_assoc, List.append_assoc]
    rfl
  · rw [Lib.nDigits_big h, decd_big h, ← List.append_assoc, show w + 1 - (Lib.nDigits (n / 10) + 1) = w - Lib.nDigits (n / 10) from by omega]
theorem byte_back_fin : ∀ b : Fin 256, 48 ≤ b.val → b.val ≤ 57 → UInt8.ofNat (48 + (b.val - 48)) = UInt8.ofNat b.val := by decide +kernel
theorem byte_back {b : UInt8} (h : digN b.toNat = true) : UInt8.ofNat (48 + (b.toNat - 48)) = b := by
  have h := of_decide_eq_true h
  have := byte_back_fin ⟨b.toNat, b.toNat_lt⟩ h.1 h.2
  simpa using this
theorem digval_of {b : UInt8} (h : digN b.toNat = true) : Lib.digitVal b = some (b.toNat - 48) := by unfold Lib.digitVal; rw [if_pos (of_decide_eq_true h)]
theorem dec_val {l : List UInt8} (h : ∀ b ∈ l, digN b.toNat = true) : Lib.decFrom 0 l = some (valL l) := by
  obtain ⟨n, hn, -⟩ := dec_some (l := l) 0 (List.all_eq_true.2 h)
  unfold valL
  rw [hn]; rfl
theorem wr_read : ∀ (k : Nat) (ds : List UInt8), ds.length = k + 1 → (∀ b ∈ ds, digN b.toNat = true) → wrL (valL ds) (k + 1) = ds := by
  intro k
  induction k with
  | zero =>
    intro ds hl hd
    match ds, hl with
    | [b], _ =>
      have hb := hd b (by simp)
      have hv : valL [b] = b.toNat - 48 := by unfold valL; rw [Lib.decFrom, digval_of hb]; simp [Lib.decFrom]
      have h2 := of_decide_eq_true hb
      rw [hv, wrL_eq, Lib.nDigits_small (by omega), Lib.decDigits_one (by omega), byte_back hb]
      rfl
  | succ k ih =>
    intro ds hl hd
    rcases List.eq_nil_or_concat ds with rfl | ⟨es, b, e⟩
    · cases hl
    · rw [List.concat_eq_append] at e
      subst e
      have he : ∀ b ∈ es, digN b.toNat = true := fun x hx => hd x (List.mem_append_left _ hx)
      have hb := hd b (by simp)
      have hv : valL (es ++ [b]) = valL es * 10 + (b.toNat - 48) := by
        have := decFrom_snoc (dec_val he) (digval_of hb)
        unfold valL at this ⊢
        rw [this]; rfl
      have h2 := of_decide_eq_true hb
      have hel : es.length = k + 1 := by rw [List.length_append] at hl; simp at hl; omega
      rw [wr_snoc _ _ (by omega), hv, show (valL es * 10 + (b.toNat - 48)) / 10 = valL es from by omega, show (valL es * 10 + (b.toNat - 48)) % 10 = b.toNat - 48 from by omega, byte_back hb, ih es hel he]
theorem ran_zero {a : ByteArray} (h : tailAt a < a.size) : ranF a 0 = a := by
  unfold ranF
  have hw : (a.data.toList.drop (tailAt a)).length = (widT a - 1) + 1 := by rw [List.length_drop, len_size]; unfold widT; omega
  have hd : ∀ b ∈ a.data.toList.drop (tailAt a), digN b.toNat = true := by
    have := tail_digS a
    unfold digS at this
    rw [ext_list, List.take_of_length_le (by simp), List.all_eq_true] at this
    exact this
  have := wr_read _ _ hw hd
  rw [show widT a - 1 + 1 = widT a from by unfold widT; omega] at this
  rw [Nat.add_zero, show numT a = valL (a.data.toList.drop (tailAt a)) from rfl, this]
  unfold preL
  rw [List.take_append_drop]
  exact (mkB_of rfl).symm
/-! Runs of codes. -/
/-- How many of the codes behind the first one go on with its range, from number j on. -/
def runC (a : ByteArray) : Nat → List ByteArray → Nat
  | _, [] => 0
  | j, b :: r => if b = ranF a j then runC a (j + 1) r + 1 else 0
def runV : List ByteArray → Nat
  | [] => 0
  | a :: r => if tailAt a < a.size then runC a 1 r + 1 else 1
/-- Goes a code on behind another one. -/
def folB (b a : ByteArray) (w : Nat) : Bool := decide (tailAt a < a.size ∧ b = mkB (preL a ++ wrL (numT a + 1) w))
theorem fol_ran {a b : ByteArray} {j : Nat} : folB b (ranF a j) (widT a) = decide (b = ranF a (j + 1)) := by
  unfold folB
  rw [ran_pre, ran_num]
  by_cases e : b = ranF a (j + 1)
  · rw [decide_eq_true e, decide_eq_true ⟨ran_tail a j, e⟩]
  · rw [decide_eq_false e, decide_eq_false fun h2 => e h2.2]
theorem runC_le (a : ByteArray) : ∀ (l : List ByteArray) (j : Nat), runC a j l ≤ l.length
  | [], _ => Nat.le_refl _
  | b :: r, j => by
    rw [runC]
    split
    · exact Nat.succ_le_succ (runC_le a r (j + 1))
    · exact Nat.zero_le _
theorem runC_take (a : ByteArray) : ∀ (l : List ByteArray) (j : Nat), l.take (runC a j l) = (List.range (runC a j l)).map fun i => ranF a (j + i)
  | [], _ => by simp [runC]
  | b :: r, j => by
    rw [runC]
    split
    · rename_i h
      rw [List.take_succ_cons, runC_take a r (j + 1), List.range_succ_eq_map, List.map_cons, List.map_map, h]
      congr 1
      exact List.map_congr_left fun i _ => by
        show ranF a (j + 1 + i) = ranF a (j + (i + 1))
        congr 1; omega
    · rfl
/-- Step by step: the codes so far go on, the next one too or not. -/
theorem runC_next {a : ByteArray} : ∀ {l : List ByteArray} {j k : Nat}, k < runC a j l → l[k]? = some (ranF a (j + k))
  | [], _, k, h => by simp [runC] at h
  | b :: r, j, k, h => by
    rw [runC] at h
    split at h
    · rename_i hb
      cases k with
      | zero => rw [hb]; rfl
      | succ k =>
        have ih := runC_next (a := a) (l := r) (j := j + 1) (k := k) (by omega)
        rw [List.getElem?_cons_succ, ih, show j + 1 + k = j + (k + 1) from by omega]
    · omega
theorem runC_stop {a : ByteArray} : ∀ {l : List ByteArray} {j : Nat} {x : ByteArray}, l[runC a j l]? = some x → x ≠ ranF a (j + runC a j l)
  | [], _, _, h => by simp at h
  | b :: r, j, x, h => by
    rw [runC] at h ⊢
    split at h
    · rename_i hb
      rw [if_pos hb]
      rw [List.getElem?_cons_succ] at h
      have := runC_stop h
      rw [show j + (runC a (j + 1) r + 1) = j + 1 + runC a (j + 1) r from by omega]
      exact this
    · rename_i hb
      rw [if_neg hb]
      obtain rfl := Option.some.inj h
      exact hb
theorem runV_pos {a : ByteArray} {r : List ByteArray} : 1 ≤ runV (a :: r) := by
  rw [runV]; split
  · omega
  · exact Nat.le_refl _
theorem runV_le (l : List ByteArray) : runV l ≤ l.length := by
  match l with
  | [] => exact Nat.le_refl _
  | a :: r =>
    rw [runV]
    split
    · exact Nat.succ_le_succ (runC_le a r 1)
    · simp
theorem runV_take {a : ByteArray} {r : List ByteArray} (h : 3 ≤ runV (a :: r)) : tailAt a < a.size ∧ (a :: r).take (runV (a :: r)) = (List.range (runV (a :: r))).map (ranF a) := by
  rw [runV] at h ⊢
  split at h
  · rename_i ht
    refine ⟨ht, ?_⟩
    rw [if_pos ht, List.take_succ_cons, runC_take, List.range_succ_eq_map, List.map_cons, List.map_map, ran_zero ht]
    congr 1
    exact List.map_congr_left fun i _ => by
      show ranF a (1 + i) = ranF a (i + 1)
      congr 1; omega
  · omega
/-- The text of a range: its two ends. -/
def rangeT (a b : ByteArray) : ByteArray := mkB (a.data.toList ++ 46 :: 46 :: b.data.toList)
/-- The parts of the text of a list, behind some codes that are left out. -/
def pieceS : Nat → List ByteArray → List ByteArray
  | _, [] => []
  | k + 1, _ :: r => pieceS k r
  | 0, a :: r => if 3 ≤ runV (a :: r) then rangeT a ((a :: r).getD (runV (a :: r) - 1) ⟨#[]⟩) :: pieceS (runV (a :: r) - 1) r else a :: pieceS 0 r
theorem pieceS_drop : ∀ (k : Nat) (l : List ByteArray), pieceS k l = pieceS 0 (l.drop k)
  | 0, _ => rfl
  | k + 1, [] => by simp [pieceS]
  | k + 1, _ :: r => by rw [pieceS, List.drop_succ_cons]; exact pieceS_drop k r
theorem piece_run {a : ByteArray} {r : List ByteArray} (h : 3 ≤ runV (a :: r)) : pieceS 0 (a :: r) = rangeT a ((a :: r).getD (runV (a :: r) - 1) ⟨#[]⟩) :: pieceS 0 ((a :: r).drop (runV (a :: r))) := by
  rw [pieceS, if_pos h, pieceS_drop]
  congr 2
  obtain ⟨k, hk⟩ : ∃ k, runV (a :: r) = k + 1 := ⟨runV (a :: r) - 1, by omega⟩
  rw [hk]; rfl
theorem piece_one {a : ByteArray} {r : List ByteArray} (h : ¬ 3 ≤ runV (a :: r)) : pieceS 0 (a :: r) = a :: pieceS 0 r := by rw [pieceS, if_neg h]
/-- What is wrong with code j of a list. -/
def jE (l : List ByteArray) (j : Nat) : Nat := if codeB (l.getD j ⟨#[]⟩) = false then 10 else if 0 ≤ idxS (l.getD j ⟨#[]⟩) (l.take j) then 11 else 0
def jErr (l : List ByteArray) : Nat → Nat
  | 0 => 0
  | n + 1 => if jErr l n ≠ 0 then jErr l n else jE l n
theorem jErr_next {l : List ByteArray} {j : Nat} (h0 : jErr l j = 0) : jErr l (j + 1) = jE l j := by rw [jErr, if_neg (by rw [h0]; simp)]
theorem jErr_hit {l : List ByteArray} {j : Nat} (h0 : jErr l j = 0) (h : jE l j ≠ 0) : ∀ n, j < n → jErr l n = jE l j
  | 0, hj => by omega
  | n + 1, hj => by
    by_cases e : j = n
    · subst e; exact jErr_next h0
    · have ih := jErr_hit h0 h n (by omega)
      rw [jErr, if_pos (by rw [ih]; exact h), ih]
theorem jErr_all {l : List ByteArray} : ∀ {n : Nat}, jErr l n = 0 → ∀ j, j < n → jE l j = 0
  | 0, _, j, hj => by omega
  | n + 1, h, j, hj => by
    by_cases h0 : jErr l n = 0
    · by_cases e : j = n
      · subst e; rw [← jErr_next h0]; exact h
      · exact jErr_all h0 j (by omega)
    · rw [jErr, if_pos h0] at h; exact absurd h h0
/-- What a list of codes is joined to: the error's number, the text. -/
def joinV (l : List ByteArray) : Nat × ByteArray := if 64 < l.length then (2, ⟨#[]⟩) else if jErr l l.length ≠ 0 then (jErr l l.length, ⟨#[]⟩) else (0, mkB (Lib.join ((pieceS 0 l).map (·.data.toList)) [59]))
theorem jErr_code {l : List ByteArray} (h : jErr l l.length = 0) : ∀ x ∈ l, codeB x = true := by
  intro x hx
  obtain ⟨j, hj⟩ := List.getElem?_of_mem hx
  have hl := (List.getElem?_eq_some_iff.1 hj).1
  have := jErr_all h j hl
  unfold jE at this
  rw [List.getD_eq_getElem?_getD, hj] at this
  cases hc : codeB x with
  | true => rfl
  | false => rw [show (some x).getD (⟨#[]⟩ : ByteArray) = x from rfl, hc, if_pos rfl] at this; cases this
/-! Listed again. -/
theorem piece_mem : ∀ (n : Nat) (l : List ByteArray), l.length ≤ n → (∀ x ∈ l, codeB x = true) → ∀ p ∈ pieceS 0 l, (59 : UInt8) ∉ p.data.toList ∧ p.data.toList ≠ []
  | _, [], _, _, p, hp => by simp [pieceS] at hp
  | 0, _ :: _, hn, _, _, _ => by simp at hn
  | n + 1, a :: r, hn, hc, p, hp => by
    have ha := hc a (by simp)
    by_cases h : 3 ≤ runV (a :: r)
    · rw [piece_run h] at hp
      rcases List.mem_cons.1 hp with rfl | hp
      · have hb : codeB ((a :: r).getD (runV (a :: r) - 1) ⟨#[]⟩) = true := by
          have hl := runV_le (a :: r)
          rw [List.getD_eq_getElem?_getD, List.getElem?_eq_getElem (by omega)]
          exact hc _ (List.getElem_mem _)
        unfold rangeT
        rw [mkB_list]
        refine ⟨fun h => ?_, by simp⟩
        rcases List.mem_append.1 h with h | h
        · exact code_no59 ha h
        · rcases List.mem_cons.1 h with h | h
          · cases h
          · rcases List.mem_cons.1 h with h | h
            · cases h
            · exact code_no59 hb h
      · exact piece_mem n _ (by rw [List.length_drop]; simp at hn ⊢; omega) (fun x hx => hc x (List.mem_of_mem_drop hx)) p hp
    · rw [piece_one h] at hp
      rcases List.mem_cons.1 hp with rfl | hp
      · refine ⟨code_no59 ha, fun e => ?_⟩
        have := code_size ha
        rw [← len_size, e] at this
        simp at this
      · exact piece_mem n r (by simpa using hn) (fun x hx => hc x (List.mem_cons_of_mem _ hx)) p hp
theorem last_run {a : ByteArray} {r : List ByteArray} (h : 3 ≤ runV (a :: r)) : (a :: r).getD (runV (a :: r) - 1) ⟨#[]⟩ = ranF a (runV (a :: r) - 1) := by
  have h2 := (runV_take h).2
  have h3 := congrArg (fun l : List ByteArray => l[runV (a :: r) - 1]?) h2
  simp only [List.getElem?_take, List.getElem?_map] at h3
  rw [if_pos (by omega), List.getElem?_range (by omega)] at h3
  rw [List.getD_eq_getElem?_getD, h3]
  rfl
theorem listF_join : ∀ (n : Nat) (r out : List ByteArray), r.length ≤ n → (∀ x ∈ r, codeB x = true) → (out ++ r).length ≤ 64 → (out ++ r).Nodup → listF out (pieceS 0 r) = (0, out ++ r)
  | _, [], out, _, _, _, hn => by
    rw [List.append_nil] at hn ⊢
    rw [show pieceS 0 [] = [] from rfl, listF, if_pos hn]
  | 0, _ :: _, _, hl, _, _, _ => by simp at hl
  | n + 1, a :: r, out, hl, hc, h64, hn => by
    have ha := hc a (by simp)
    rw [List.length_append] at h64
    by_cases h : 3 ≤ runV (a :: r)
    · have hle := runV_le (a :: r)
      obtain ⟨ht, htake⟩ := runV_take h
      have hlast := last_run h
      have hb : codeB (ranF a (runV (a :: r) - 1)) = true := by
        rw [← hlast, List.getD_eq_getElem?_getD, List.getElem?_eq_getElem (by omega)]
        exact hc _ (List.getElem_mem _)
      have hp : partV (rangeT a (ranF a (runV (a :: r) - 1))) (64 - out.length) = (0, (a :: r).take (runV (a :: r))) := by
        unfold rangeT
        rw [part_ran (code_no46 ha) (code_no46 hb)]
        unfold rangeV
        rw [if_pos ⟨ha, hb⟩, if_pos (ends_ran ht), ran_num, if_neg (by omega), htake, show numT a + (runV (a :: r) - 1) - numT a + 1 = runV (a :: r) from by omega]
      rw [piece_run h, hlast, listF, hp, if_neg (by simp), if_neg (by rw [List.length_append, List.length_take]; omega),
        listF_join n _ _ (by rw [List.length_drop]; simp at hl ⊢; omega) (fun x hx => hc x (List.mem_of_mem_drop hx)) (by rw [List.append_assoc, List.take_append_drop, List.length_append]; exact h64) (by rw [List.append_assoc, List.take_append_drop]; exact hn), List.append_assoc, List.take_append_drop]
    · simp only [List.length_cons] at h64
      rw [piece_one h, listF, part_code ha, if_neg (by simp), if_neg (by rw [List.length_append]; simp; omega),
        listF_join n r _ (by simpa using hl) (fun x hx => hc x (List.mem_cons_of_mem _ hx)) (by rw [List.append_assoc, List.length_append]; simp; omega) (by rw [List.append_assoc]; exact hn), List.append_assoc]
      rfl
theorem list_join {l : List ByteArray} (h64 : l.length ≤ 64) (hc : ∀ x ∈ l, codeB x = true) (hn : l.Nodup) : listV (mkB (Lib.join ((pieceS 0 l).map (·.data.toList)) [59])) = (0, l) := by
  have hm := piece_mem _ l (Nat.le_refl _) hc
  match l, h64, hc, hn, hm with
  | [], _, _, _, _ => rfl
  | a :: r, h64, hc, hn, hm =>
    have hp := parts_join (pieceS 0 (a :: r)) (fun x hx => (hm x hx).1) (fun x hx => (hm x hx).2)
    have hne : pieceS 0 (a :: r) ≠ [] := by
      by_cases h : 3 ≤ runV (a :: r)
      · rw [piece_run h]; simp
      · rw [piece_one h]; simp
    have h0 : (mkB (Lib.join ((pieceS 0 (a :: r)).map (·.data.toList)) [59])).size ≠ 0 := by
      rw [mkB_size]
      intro e
      exact join59_ne _ (by simpa using hne) (fun x hx => by
        obtain ⟨p, hp, rfl⟩ := List.mem_map.1 hx
        exact (hm p hp).2) (List.eq_nil_of_length_eq_zero e)
    unfold listV
    rw [if_neg h0]
    have hp' : partsOf (mkB (Lib.join ((pieceS 0 (a :: r)).map (·.data.toList)) [59])) = pieceS 0 (a :: r) := hp
    rw [hp']
    exact listF_join _ (a :: r) [] (Nat.le_refl _) hc (by simpa using h64) (by simpa using hn)
end Go.Proofs.YtnbcaklnpflihaaGreatDoor

namespace Go.Proofs.YtnbcaklnpflihaaGreatDoor
open Go.RowKit
set_option maxRecDepth 100000

theorem preL_len {a : ByteArray} : (preL a).length ≤ a.size := by unfold preL; rw [List.length_take, len_size]; omega
theorem widT_le {a : ByteArray} : widT a ≤ a.size := by unfold widT; omega
set_option maxHeartbeats 4000000 in
theorem run_walk (A : Option Addr) (a : ByteArray) (r : List ByteArray) (c : Nat) (w : World) (hS : Std w) (hA : At kStr AnyB w A (a :: r)) (hl : (a :: r).length ≤ 64) (ha : a.size ≤ 16) :
    Calls Tryz.prog 90 #[.slice A (a :: r).length c] w fun e w' => e = .returned (.int .i64 (runV (a :: r))) ∧ Below w.heap.size w w' := by
  obtain ⟨b, off, rfl, -, hlt, k0⟩ := hA.str (j := 0) rfl
  rw [Nat.add_zero] at k0
  have hbig := hS.big
  have p1 := parts_is a w hS (by omega)
  have na := numT_le a ha
  have hpl : (preL a).length ≤ 16 := Nat.le_trans preL_len ha
  have hwl : widT a ≤ 16 := Nat.le_trans widT_le ha
  have hnf : ∀ k, ranF a k = mkB (preL a ++ wrL (numT a + k) (widT a)) := fun _ => rfl
  obtain ⟨N, hN⟩ : ∃ N, (a :: r).length = N := ⟨_, rfl⟩
  have hN1 : 0 < N := by rw [← hN]; simp
  have hrl : r.length = N - 1 := by rw [← hN]; simp
  rw [hN] at hl ⊢
  by_cases hok : tailAt a < a.size
  · rw [if_pos hok, decide_eq_true hok] at p1
    have hR : runV (a :: r) = runC a 1 r + 1 := if_pos hok
    have hRle := runC_le a r 1
    have hnext : ∀ j, 1 ≤ j → j < runC a 1 r + 1 → (a :: r)[j]? = some (ranF a j) := fun j h1 hj => by
      obtain ⟨i, rfl⟩ : ∃ i, j = i + 1 := ⟨j - 1, by omega⟩
      rw [List.getElem?_cons_succ, runC_next (a := a) (j := 1) (by omega), Nat.add_comm]
    have hstop : ∀ x, (a :: r)[runC a 1 r + 1]? = some x → x ≠ ranF a (runC a 1 r + 1) := fun x hx => by
      rw [List.getElem?_cons_succ] at hx
      rw [Nat.add_comm]; exact runC_stop hx
    rw [hR]
    obtain ⟨R, hRR⟩ : ∃ R, runC a 1 r = R := ⟨_, rfl⟩
    rw [hRR] at hRle hnext hstop ⊢
    obtain ⟨n, hn⟩ : ∃ n, numT a = n := ⟨_, rfl⟩
    obtain ⟨d, hd⟩ : ∃ d, widT a = d := ⟨_, rfl⟩
    obtain ⟨p, hp⟩ : ∃ p, preL a = p := ⟨_, rfl⟩
    obtain ⟨f, hf⟩ : ∃ f, ranF a = f := ⟨_, rfl⟩
    have hA2 : ∀ j x, (a :: r)[j]? = some x → w.cell? ⟨b, off + j, none⟩ = some (.string x) := fun j x hx => by
      obtain ⟨b', off', e, -, -, hc⟩ := hA.str hx
      injection e with e
      injection e with e1 e2
      subst e1 e2
      exact hc
    obtain ⟨L, hL⟩ : ∃ L, a :: r = L := ⟨_, rfl⟩
    rw [hL] at hN hA2 hnext hstop
    rw [hn] at na
    rw [hn, hd, hp] at p1
    rw [hd] at hwl
    rw [hp] at hpl
    simp only [hn, hd, hp, hf] at hnf hnext hstop
    replace hnf := hide hnf
    replace hnext := hide hnext
    replace hstop := hide hstop
    replace hA2 := hide hA2
    replace hN := hide hN
    clear hn hd hp hf hok hA hR hRR hL
    go_enter Tryz.func90, Tryz.ntmps90
    go_wp2_with (go_at_call 126; (with_reducible refine p1.mono ?_); rintro e w1 ⟨rfl, hb1⟩)
    go_loopw [7] (fun v wr => ∃ j, 1 ≤ j ∧ j ≤ R + 1 ∧ v = .int .i64 (j : Int) ∧ Below w.heap.size w wr) (fun v _ => R + 2 - (intOf v).toNat)
    case atStart => exact ⟨1, Nat.le_refl _, by omega, rfl, hb1⟩
    case round =>
      obtain ⟨j, hj1, hj, rfl, hb⟩ := hrel
      have hw1 : IntKind.i64.wrap ((n : Int) + (j : Int)) = ((n + j : Nat) : Int) := by rw [IntKind.wrap_i64]; omega
      have hcall := hide (fun (V : World) (hV : Below wr.heap.size wr V) (b off : Nat) (x : ByteArray) (hc : Cn1 b off ((.string x)) wr) => (written_is p (n + j) d V (hS.after (ext_trans hb hV)) (by omega) (by omega) (by omega)).mono fun e w' ⟨he, hb'⟩ => (⟨by rw [he, ← hnf.out j], ext_trans hV hb', hc.later (ext_trans hV hb')⟩ : e = Ending.returned (.string (f j)) ∧ Below wr.heap.size wr w' ∧ Cn1 b off ((.string x)) w'))
      obtain ⟨F, hF⟩ : ∃ F, f j = F := ⟨_, rfl⟩
      by_cases hlt2 : j < N
      · have hci : (j : Int) < (N : Int) := by omega
        have hc0 : (0 : Int) ≤ (j : Int) := by omega
        obtain ⟨x, hx⟩ : ∃ x, L[j]? = some x := ⟨_, List.getElem?_eq_getElem (by rw [hN.out]; exact hlt2)⟩
        have hcell := ((bcell hb).1 _ _ hlt).trans (hA2.out j x hx)
        have hSL : Cn1 b (off + j) ((.string x)) wr := hcell
        have hcall2 := hide (fun V hV => hcall.out V hV b (off + j) x hSL)
        rw [hF] at hcall2
        have hSd := hSL.drew
        have hrefl := Below.refl wr.heap.size wr
        have hbl : b < wr.heap.size := Nat.lt_of_lt_of_le hlt hb.size
        by_cases hiR : j < R + 1
        · have hxF : x = F := by
            have := hnext.out j hj1 hiR
            rw [hx] at this
            rw [← hF]; exact Option.some.inj this
          subst hxF
          clear hx hF hcall hnext hstop hA2 hnf p1 k0
          go_upto_region 3 with fail
          go_region_held3 (fun W' => W'.cell? ⟨b, off + j, none⟩ = some ((.string x))) (first | ((repeat (first | (with_reducible assumption) | (with_reducible refine Cn1.alloc ?_ _) | (with_reducible refine Cn1.drew ?_) | (with_reducible refine Cn1.set ?_ ?_ _) | omega)); done)) (first | (go_at_call 127; refine (hcall2.out _ (by repeat (first | (with_reducible assumption) | (with_reducible refine ext_alloc ?_ _) | (with_reducible refine ext_drew ?_)))).mono ?_; rintro e w2 ⟨rfl, hb2, hx2⟩))
          all_goals
            go_wp2_with fail
            go_roundw
            case rel => exact ⟨j + 1, by omega, by omega, by go_num, ext_trans hb hb2⟩
            case measure => simp [intOf]; omega
        · have hjR : Hid (j = R + 1) := hide (by omega)
          have hne := toList_no (X := x) (Y := F) (fun e => hstop.out x (by rw [← hjR.out]; exact hx) (by rw [← hjR.out, hF]; exact dat_inj e))
          clear hx hF hcall hnext hstop hA2 hnf p1 k0 hiR
          go_upto_region 3 with fail
          go_region_held3 (fun W' => W'.cell? ⟨b, off + j, none⟩ = some ((.string x))) (first | ((repeat (first | (with_reducible assumption) | (with_reducible refine Cn1.alloc ?_ _) | (with_reducible refine Cn1.drew ?_) | (with_reducible refine Cn1.set ?_ ?_ _) | omega)); done)) (first | (go_at_call 127; refine (hcall2.out _ (by repeat (first | (with_reducible assumption) | (with_reducible refine ext_alloc ?_ _) | (with_reducible refine ext_drew ?_)))).mono ?_; rintro e w2 ⟨rfl, hb2, hx2⟩))
          all_goals
            go_wp2_with fail
            go_ret
            exact ⟨by have e := hjR.out; subst e; rfl, ext_trans hb hb2⟩
      · have hjR : Hid (j = R + 1) := hide (by omega)
        have hci : ¬ (j : Int) < (N : Int) := by omega
        clear hF hcall hnext hstop hA2 hnf p1 k0
        go_upto_region 3 with fail
        go_region
        all_goals
          go_wp2
          go_ret
          exact ⟨by have e := hjR.out; subst e; rfl, by first | exact hb | exact ext_drew hb⟩
  · rw [if_neg hok, decide_eq_false hok] at p1
    have hR : runV (a :: r) = 1 := if_neg hok
    rw [hR]
    clear hok hA hR hnf hN
    go_enter Tryz.func90, Tryz.ntmps90
    go_wp2_with (go_at_call 126; (with_reducible refine p1.mono ?_); rintro e w1 ⟨rfl, hb1⟩)
    go_loopw [7] (fun v wr => v = .int .i64 1 ∧ Below w.heap.size w wr) (fun _ _ => 0)
    case atStart => exact ⟨rfl, hb1⟩
    case round =>
      obtain ⟨rfl, hb⟩ := hrel
      go_upto_region 3 with fail
      go_region
      all_goals
        go_wp2
        go_ret
        exact ⟨rfl, by first | exact hb | exact ext_drew hb⟩
end Go.Proofs.YtnbcaklnpflihaaGreatDoor
