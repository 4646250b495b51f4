/- Walk of codes.run: how many of the first codes are a range. Conditions: short codes; what the program's variables hold. Walk of codes.Join. Conditions: the cells; what the program's variables hold. Walk of timetableref03.written: bytes put in front of a row. Conditions: a number that is an int; a width of at most 1000. Walk of timetableref03.follows: is a code the next one. Conditions: a code of at most 16 bytes, a width of at most 100. -/
import Derived.Test.YtdnnahdafhddlaaGreatDoorYWide
namespace Go.Proofs.YtdnnahdafhddlaaGreatDoor
open Go.RowKit
set_option maxRecDepth 100000

theorem preL_len {a : ByteArray} : (preL a).length ≤ a.size := by unfold preL; rw [List.length_take, len_size]; omega
theorem widT_le {a : ByteArray} : widT a ≤ a.size := by unfold widT; omega
end Go.Proofs.YtdnnahdafhddlaaGreatDoor

namespace Go.Proofs.YtdnnahdafhddlaaGreatDoor
open Go.RowKit
set_option maxRecDepth 100000

def lenV : Value → Nat
  | .slice _ n _ => n
  | _ => 0
end Go.Proofs.YtdnnahdafhddlaaGreatDoor

namespace Go.Proofs.YtdnnahdafhddlaaGreatDoor
open Go.RowKit
set_option maxRecDepth 100000

def kU8 : Kind UInt8 := ⟨1, fun _ _ a vs => vs = [.int .u8 (a.toNat : Int)], fun h _ => h, fun h => by rw [h]; rfl, fun h u hu => by rw [h] at hu; simp at hu; subst hu; rfl⟩
theorem apd_u8 : Apd Tryz.prog 34 5 1 1 := apd Tryz.underlying34 (z := .int .u8 0) (by kernel_rfl) rfl
/-- A row that is one byte. -/
theorem own_byte (w : World) (B : Nat) (hB : B ≤ w.heap.size) (c : UInt8) (x : Int) (hx : x = (c.toNat : Int)) : Own kU8 5 [] 0 B (w.alloc (.cells #[.int .u8 x] 5)) (.slice (some ⟨w.heap.size, 0, none⟩) 1 1) [c] := by
  subst hx
  refine ⟨[[.int .u8 (c.toNat : Int)]], rfl, ⟨rfl, .inr ⟨w.heap.size, 1, #[.int .u8 (c.toNat : Int)], rfl, hB, heap_alloc_new _ _, Nat.le_refl _, by decide, rfl, rfl⟩⟩, ?_⟩
  intro j x vs hj hv
  match j, hj, hv with
  | 0, hj, hv =>
    obtain rfl := Option.some.inj hj
    exact (Option.some.inj hv).symm
/-- The cells of a row of bytes. -/
theorem own_bytes {B : Nat} {w : World} {v : Value} {L : List UInt8} (h : Own kU8 5 [] 0 B w v L) (h0 : 0 < L.length) : ∃ g cap, v = .slice (some ⟨g, 0, none⟩) L.length cap ∧ g < w.heap.size ∧ ∀ j (hj : j < L.length), w.cell? ⟨g, j, none⟩ = some (.int .u8 (L[j].toNat : Int)) := by
  have hat := h.any
  obtain ⟨vss, e1, e2, e3⟩ := h
  obtain ⟨A, c, e, -, ha⟩ := hat
  rcases e2.2 with ⟨-, h1⟩ | ⟨g, cap, cur, rfl, -⟩
  · omega
  · injection e with q1 q2 q3
    subst q1 q3
    obtain ⟨b, off, vs, q, -, hlt, -⟩ := ha.get (j := 0) (List.getElem?_eq_getElem h0)
    injection q with q
    injection q with q1 q2
    subst q1 q2
    refine ⟨_, _, rfl, hlt, fun j hj => ?_⟩
    obtain ⟨b', off', vs, q', -, -, hr, hc⟩ := ha.get (List.getElem?_eq_getElem hj)
    injection q' with q'
    injection q' with q1' q2'
    subst q1' q2'
    have hr : vs = [.int .u8 (L[j].toNat : Int)] := hr
    subst hr
    have := hc 0 _ rfl
    simpa [kU8] using this
theorem flat_bytes (l : List UInt8) : (l.map fun b => [Value.int .u8 (b.toNat : Int)]).flatten = l.map fun b => Value.int .u8 (b.toNat : Int) := by
  induction l with
  | nil => rfl
  | cons x l ih => rw [List.map_cons, List.flatten_cons, ih]; rfl
theorem own_front {B : Nat} {w : World} {v : Value} {L : List UInt8} (h : Own kU8 5 [] 0 B w v L) (h0 : 0 < L.length) : ∃ g cap, v = .slice (some ⟨g, 0, none⟩) L.length cap ∧ g < w.heap.size ∧ ∀ j u, (L.map fun b => [Value.int .u8 (b.toNat : Int)]).flatten[j]? = some u → w.cell? ((⟨g, 0, none⟩ : Addr).add j) = some u := by
  obtain ⟨g, cap, rfl, hg, hc⟩ := own_bytes h h0
  refine ⟨g, cap, rfl, hg, fun j u hu => ?_⟩
  rw [flat_bytes, List.getElem?_map] at hu
  obtain ⟨x, hx, rfl⟩ := Option.map_eq_some_iff.1 hu
  obtain ⟨hl, rfl⟩ := List.getElem?_eq_some_iff.1 hx
  rw [Addr.add_lit, Nat.zero_add]
  exact hc j hl
theorem rep_bytes {S : Nat → Prop} {w : World} {l : List UInt8} : ∀ (j : Nat) (x : UInt8) (vs : List Value), l[j]? = some x → (l.map fun b => [Value.int .u8 (b.toNat : Int)])[j]? = some vs → kU8.rep S w x vs := by
  intro j x vs h1 h2
  rw [List.getElem?_map, h1] at h2
  exact (Option.some.inj h2).symm
set_option maxHeartbeats 4000000 in
theorem r3written_walk (n width : Nat) (w : World) (hn : n ≤ 9223372036854775807) (hw : width ≤ 1000) :
    Calls Tryz.prog 122 #[.int .i64 n, .int .i64 width] w fun e w' => e = .returned (.string (mkB (wrL n width))) ∧ Below w.heap.size w w' := by
  have hlen := Lib.itoa_length_le n (by omega) (by omega)
  rw [Lib.itoa_nonneg] at hlen
  obtain ⟨F, hF⟩ : ∃ F, Lib.decDigits n = F := ⟨_, rfl⟩
  have hfin : Hid (wrL n width = List.replicate (width - F.length) 48 ++ F) := hide (by rw [wrL_eq, ← hF, Lib.decDigits_length])
  have hst : preN n [] = F := by rw [preN_start, hF]
  have hF1 : 1 ≤ F.length := by rw [← hF, Lib.decDigits_length]; exact Lib.nDigits_pos n
  rw [hF] at hlen
  clear hF
  obtain ⟨W, hWr⟩ : ∃ W, mkB (wrL n width) = W := ⟨_, rfl⟩
  rw [hWr]
  replace hWr := hide hWr
  go_enter Tryz.func122, Tryz.ntmps122
  go_wp2
  go_loopw [0, 5] (fun i v wr => ∃ (m : Nat) (L : List UInt8), m ≤ 9223372036854775807 ∧ i = .int .i64 m ∧ Own kU8 5 [] 0 w.heap.size wr v L ∧ (L = [] → v = .slice none 0 0) ∧ preN m L = F ∧ Below w.heap.size w wr) (fun i v _ => (intOf i).toNat + (1 - lenV v))
  case atStart => exact ⟨n, [], hn, rfl, Own.nil, fun _ => rfl, hst, Below.refl _ _⟩
  case round =>
    obtain ⟨m, L, hm, rfl, hown, hnil, hp, hb⟩ := hrel
    have hLl := preN_len m L
    rw [hp] at hLl
    have hL21 : L.length ≤ 21 := Nat.le_trans hLl hlen
    by_cases hc : m = 0 ∧ L ≠ []
    · obtain ⟨rfl, hx⟩ := hc
      rw [preN_end hx] at hp
      subst hp
      have hL0 : 0 < L.length := Nat.pos_of_ne_zero fun e => hx (List.eq_nil_of_length_eq_zero e)
      obtain ⟨g, cap, rfl, -, -⟩ := own_front hown hL0
      have hLi : ((L.length : Int) == 0) = false := by simpa using hx
      clear hst hnil hLl hx
      go_wp2_with fail
      rw [show ((0 : Nat) : Int) = 0 from rfl]
      go_loopw [5] (fun v wr => ∃ (k : Nat) (Y : List UInt8), Own kU8 5 [] 0 w.heap.size wr v Y ∧ Y.length = k + L.length ∧ Y = List.replicate k 48 ++ L ∧ (k = 0 ∨ Y.length ≤ width) ∧ Below w.heap.size w wr) (fun v _ => width - lenV v)
      case atStart => exact ⟨0, L, hown, by omega, rfl, .inl rfl, hb⟩
      case round =>
        obtain ⟨k, Y, hownY, hYs, hY, hk, hb⟩ := hrel
        have hY0 : 0 < Y.length := by omega
        clear hown hLi hL21
        by_cases hlt : Y.length < width
        · have hli : (Y.length : Int) < (width : Int) := by omega
          obtain ⟨g, cap, rfl, -, hnews⟩ := own_front (hownY.alloc (.cells #[.int .u8 48] 5)) hY0
          have hn : Hid (48 :: Y = List.replicate (k + 1) 48 ++ L) := hide (by rw [← rep_snoc, ← hY])
          replace hYs := hide hYs
          clear hY hownY
          go_wp2_with (at_builtin; refine wpList_own_many rfl _ _ rfl apd_u8 (by decide) rfl (own_byte wr w.heap.size hb.size 48 48 rfl) Y (Y.map fun b => [Value.int .u8 (b.toNat : Int)]) (List.length_map _) ?d1 (by decide) ⟨g, 0, none⟩ Y.length cap rfl rfl rep_bytes hnews (by decide) (Nat.zero_le _) ?d2 ?_)
          case d1 => simp; omega
          case d2 => exact (ext_alloc hb _).size
          intro v8 w8 hown8 hgrow
          have hb8 := (own_byte wr w.heap.size hb.size 48 48 rfl).below_grown (ext_alloc hb _) (Nat.le_refl _) hgrow
          clear hgrow hnews
          obtain ⟨A8, c8, rfl⟩ := hown8.form
          go_wp2_with fail
          go_roundw
          case rel => exact ⟨k + 1, 48 :: Y, hown8, by rw [List.length_cons, hYs.out]; omega, hn.out, .inr (by rw [List.length_cons]; omega), hb8⟩
          case measure => simp only [lenV, List.length_cons]; omega
        · have hli : ¬ (Y.length : Int) < (width : Int) := by omega
          obtain ⟨g, cap, rfl, hg, hcells⟩ := own_bytes hownY hY0
          have hfe : (⟨Y.toArray⟩ : ByteArray) = W := by
            rw [← hWr.out, hfin.out]
            unfold mkB
            rw [hY, show width - L.length = k from by omega]
          have hconv : (convert 34 9 (.slice (some ⟨g, 0, none⟩) Y.length cap)).run Tryz.prog wr = .ok (.string ⟨Y.toArray⟩) wr :=
            run_convert_bytes_back _ 34 9 5 ⟨g, 0, none⟩ cap Y Tryz.underlying34 Tryz.underlying5 Tryz.underlying9 (fun j hj => by
              rw [Addr.add_lit, Nat.zero_add]; exact hcells j hj)
          rw [hfe] at hconv
          replace hYs := hide hYs
          clear hY hfin hownY hcells hfe
          go_wp2_with fail
          go_ret
          exact ⟨rfl, hb⟩
    · have hcc : m ≠ 0 ∨ L = [] := by
        by_cases h : m = 0
        · exact .inr (Classical.byContradiction fun hx => hc ⟨h, hx⟩)
        · exact .inl h
      have hstep := preN_step hcc
      rw [hp] at hstep
      obtain ⟨ch, hch⟩ : ∃ c, UInt8.ofNat (48 + m % 10) = c := ⟨_, rfl⟩
      have hchi : 48 + (m : Int) % 10 = (ch.toNat : Int) := by rw [← hch, UInt8.toNat_ofNat']; omega
      have hm0 : (0 : Int) ≤ (m : Int) := by omega
      rw [hch] at hstep
      clear hch hst hp hc
      by_cases hL : L = []
      · subst hL
        obtain rfl := hnil rfl
        clear hnil hcc hown
        by_cases hmz : 0 < m
        · have hown := own_byte wr w.heap.size hb.size ch _ rfl
          have hmi : (0 : Int) < (m : Int) := by omega
          go_wp2_with fail
          go_roundw
          case rel => exact ⟨m / 10, [ch], by omega, by go_num, hown, fun h => by simp at h, hstep, ext_alloc hb _⟩
          case measure => simp only [intOf, lenV]; omega
        · obtain rfl : m = 0 := by omega
          have hown := own_byte wr w.heap.size hb.size ch 48 (by omega)
          go_wp2_with fail
          go_roundw
          case rel => exact ⟨0, [ch], by omega, by go_num, hown, fun h => by simp at h, hstep, ext_alloc hb _⟩
          case measure => simp [intOf, lenV]
      · have hL0 : 0 < L.length := Nat.pos_of_ne_zero fun e => hL (List.eq_nil_of_length_eq_zero e)
        have hmz : 0 < m := by rcases hcc with h | h; omega; exact absurd h hL
        have hmi : (0 : Int) < (m : Int) := by omega
        obtain ⟨g, cap, rfl, -, hnews⟩ := own_front (hown.alloc (.cells #[.int .u8 (ch.toNat : Int)] 5)) hL0
        clear hnil hcc hown
        go_wp2_with (at_builtin; refine wpList_own_many rfl _ _ rfl apd_u8 (by decide) rfl (own_byte wr w.heap.size hb.size ch _ rfl) L (L.map fun b => [Value.int .u8 (b.toNat : Int)]) (List.length_map _) ?d1 (by decide) ⟨g, 0, none⟩ L.length cap rfl rfl rep_bytes hnews (by decide) (Nat.zero_le _) ?d2 ?_)
        case d1 => simp; omega
        case d2 => exact (ext_alloc hb _).size
        intro v8 w8 hown8 hgrow
        have hb8 := (own_byte wr w.heap.size hb.size ch _ rfl).below_grown (ext_alloc hb _) (Nat.le_refl _) hgrow
        clear hgrow hnews
        obtain ⟨A8, c8, rfl⟩ := hown8.form
        go_wp2_with fail
        go_roundw
        case rel => exact ⟨m / 10, ch :: L, by omega, by go_num, hown8, fun h => by simp at h, hstep, hb8⟩
        case measure => simp only [intOf, lenV, List.length_cons]; omega
end Go.Proofs.YtdnnahdafhddlaaGreatDoor

namespace Go.Proofs.YtdnnahdafhddlaaGreatDoor
open Go.RowKit
set_option maxRecDepth 100000

theorem tail_is (a : ByteArray) (w : World) (hs : a.size ≤ 9223372036854775807) :
    Calls Tryz.prog 84 #[.string a] w fun e w' => e = .returned (.tuple #[.string (mkB (preL a)), .string (mkB (a.data.toList.drop (tailAt a)))]) ∧ Below w.heap.size w w' := by
  refine (r3tail_walk a w hs).mono ?_
  rintro e w' ⟨X, Y, rfl, hX, hY, hb⟩
  exact ⟨by rw [mkB_of hX, mkB_of hY]; rfl, hb⟩
theorem tail_digs (a : ByteArray) : ∀ b ∈ a.data.toList.drop (tailAt a), digN b.toNat = true := by
  have := tail_digS a
  unfold digS at this
  rw [ext_list, List.take_of_length_le (by simp), List.all_eq_true] at this
  exact this
theorem digS_mk {l : List UInt8} (h : ∀ b ∈ l, digN b.toNat = true) : digS (mkB l) = true := by
  unfold digS
  rw [mkB_list, List.all_eq_true]
  exact h
theorem valS_mk (l : List UInt8) : valS (mkB l) = valL l := by unfold valS valL; rw [mkB_list]
end Go.Proofs.YtdnnahdafhddlaaGreatDoor
