/- Walk of timegrid.Format. No condition. The plain law of TimegridReturns: the text of a time is read as the time. No walk. -/
import Derived.Test.YtimcdikeajbabaaGreatDoorRows
import Derived.WalkKit
import Derived.WalkSpells
import Derived.WalkLawsBesides
import Derived.BigGuardPart
import Derived.Lib.Hide
import Derived.Laws.BitsAllLaws
import Derived.Laws.BitsLemmas
import Derived.Lib.LaidTab
import Derived.Test.YtimcdikeajbabaaGreatDoorShelf
import Derived.Lib.ConvBytes
import Derived.Deep.QuietTactic
import Derived.BigQuiet
import Derived.Lib.SmallJoins
import Derived.Lib.SplitLaws
import Derived.Lib.CountLaws
import Derived.Lib.IndexMore
import Derived.Lib.Split
import Derived.Lib.Join
import Derived.Lib.ItoaNum
import Derived.Laws.AppendOwn
import Derived.Laws.ResultCell
import Derived.RegionTactic
import Derived.BigRegion
import Derived.Deep.RegionHeld3
import Derived.Deep.DeepCutAuto
import Derived.Test.YtimcdikeajbabaaGreatDoorQDice
import Derived.Test.YtimcdikeajbabaaGreatDoorQTgB
import Derived.Test.YtimcdikeajbabaaGreatDoorQTgF
import Derived.Test.YtimcdikeajbabaaGreatDoorQWsF
namespace Go.Proofs.YtimcdikeajbabaaGreatDoor
open Go.RowKit
set_option maxRecDepth 100000

def dayB (k : Nat) : ByteArray := dayNames.getD k ByteArray.empty
theorem dayB_size (k : Nat) : (dayB k).size ≤ 2 := by
  unfold dayB
  match k with
  | 0 | 1 | 2 | 3 | 4 | 5 | 6 => decide
  | k + 7 => simp [dayNames]
/-- The text of a time: day and slots. -/
def slotT (p q : Nat) : List UInt8 := dec2 (p + 1) ++ if 1 < q then 45 :: dec2 (p + q) else []
def timeT (n x1 k p q : Nat) : List UInt8 := (dayB k).data.toList ++ 32 :: slotT p q ++ if x1 = 2 ^ n - 1 then [] else 32 :: formatL x1 n
/-- What Format returns. -/
def fmtT (d s b m n x1 x2 x3 x4 : Int) : List UInt8 × Int := if fitsV d s b m n x1 x2 x3 x4 = 0 then (timeT n.toNat x1.toNat x2.toNat x3.toNat x4.toNat, 0) else ([], fitsV d s b m n x1 x2 x3 x4)
structure FitsB (d s n x1 x2 x3 x4 : Int) : Prop where
  n1 : 1 ≤ n
  n2 : n ≤ 20
  v : validB x1 n = true
  w1 : 1 ≤ x1
  d1 : 0 ≤ x2
  d2 : x2 < 7
  d3 : x2 < d
  s1 : 0 ≤ x3
  l1 : 1 ≤ x4
  s2 : x3 + x4 ≤ 24
  s3 : x3 + x4 ≤ s
theorem fits_parts {d s b m n x1 x2 x3 x4 : Int} (h : fitsV d s b m n x1 x2 x3 x4 = 0) : weekB d s b m n = true ∧ FitsB d s n x1 x2 x3 x4 := by
  unfold fitsV at h
  cases hw : weekB d s b m n
  · rw [if_pos hw] at h; omega
  · rw [if_neg (by simp [hw])] at h
    by_cases hc : soundB x1 x2 x3 x4 = false ∨ validB x1 n = false ∨ d ≤ x2 ∨ s < x3 + x4
    · rw [if_pos hc] at h; omega
    · have hn : 1 ≤ n ∧ n ≤ 20 := by
        simp only [weekB, Bool.and_eq_true, decide_eq_true_eq] at hw; exact hw.2
      have hs : soundB x1 x2 x3 x4 = true := by
        cases hx : soundB x1 x2 x3 x4
        · exact absurd (Or.inl hx) hc
        · rfl
      have hv : validB x1 n = true := by
        cases hx : validB x1 n
        · exact absurd (Or.inr (Or.inl hx)) hc
        · rfl
      obtain ⟨⟨a1, -⟩, a2, a3, a4, a5, a6⟩ := soundB_parts hs
      exact ⟨rfl, hn.1, hn.2, hv, a1, a2, a3, by omega, a4, a5, a6, by omega⟩
abbrev HeldF (K : Nat) (x1 x2 x3 x4 : Int) (w0 W : World) : Prop := W.cell? ⟨K, 0, none⟩ = some (.int .i64 x1) ∧ W.cell? ⟨K, 1, none⟩ = some (.int .i64 x2) ∧ W.cell? ⟨K, 2, none⟩ = some (.int .i64 x3) ∧ W.cell? ⟨K, 3, none⟩ = some (.int .i64 x4) ∧ Below w0.heap.size w0 W
theorem HeldF.later {K : Nat} {x1 x2 x3 x4 : Int} {w0 W W' : World} (h : HeldF K x1 x2 x3 x4 w0 W) (hb : Below W.heap.size W W') : HeldF K x1 x2 x3 x4 w0 W' :=
  ⟨cell_later hb h.1, cell_later hb h.2.1, cell_later hb h.2.2.1, cell_later hb h.2.2.2.1, ext_trans h.2.2.2.2 hb⟩
theorem keepF {P : Program} {f : FuncId} {args : Array Value} {v : Value} {K : Nat} {x1 x2 x3 x4 : Int} {w0 W : World} (h : HeldF K x1 x2 x3 x4 w0 W) (hc : Calls P f args W fun e w' => e = .returned v ∧ Below W.heap.size W w') :
    Calls P f args W fun e w' => e = .returned v ∧ HeldF K x1 x2 x3 x4 w0 w' := hc.mono fun _ _ ⟨he, hb⟩ => ⟨he, h.later hb⟩
theorem itoa_below (a : Int) (h0 : 0 ≤ a) (h1 : a < 100) (w : World) :
    Calls Tryz.prog 46 #[.int .i64 a] w fun e w' => e = .returned (.string ⟨(dec2 a.toNat).toArray⟩) ∧ Below w.heap.size w w' :=
  (itoa_walk a h0 h1 w).mono fun _ _ ⟨he, hw⟩ => ⟨he, by rw [hw]; exact Below.refl _ _⟩
theorem nameB_walk (k : Nat) (hk : k < 7) (w : World) :
    Calls Tryz.prog 45 #[.int .i64 (k : Int)] w fun e w' => e = .returned (.string (dayB k)) ∧ Below w.heap.size w w' := name_walk k hk w
theorem ret_sv {a : ByteArray} {l : List UInt8} {k : IntKind} {c : Int} (h : a.data.toList = l) : Ending.returned (.tuple #[.string a, .int k c]) = .returned (.tuple #[.string ⟨l.toArray⟩, .int k c]) := by
  subst h; rfl
theorem timeT_eq (n x1 k p q : Nat) (A B : List UInt8) (hA : (if 1 < q then 45 :: dec2 (p + q) else []) = A) (hB : (if x1 = 2 ^ n - 1 then [] else 32 :: formatL x1 n) = B) : timeT n x1 k p q = (dayB k).data.toList ++ 32 :: (dec2 (p + 1) ++ A) ++ B := by
  unfold timeT slotT; rw [hA, hB]
end Go.Proofs.YtimcdikeajbabaaGreatDoor

namespace Go.Proofs.YtimcdikeajbabaaGreatDoor

theorem dec2_all : ∀ k : Nat, k < 30 → 1 ≤ k → numL (dec2 k) = some k ∧ 45 ∉ dec2 k ∧ 32 ∉ dec2 k := by decide +kernel
theorem slotT_facts {p q : Nat} (hq : 1 ≤ q) (hpq : p + q ≤ 24) : 32 ∉ slotT p q ∧ slotsFrom (slotT p q) = p + 1 ∧ slotsTo (slotT p q) = p + q ∧ slotsOk (slotT p q) = true := by
  obtain ⟨a1, a2, a3⟩ := dec2_all (p + 1) (by omega) (by omega)
  obtain ⟨b1, b2, b3⟩ := dec2_all (p + q) (by omega) (by omega)
  have va : numV (dec2 (p + 1)) = p + 1 := by simp [numV, a1]
  have oa : numOk (dec2 (p + 1)) = true := by simp [numOk, a1]
  have vb : numV (dec2 (p + q)) = p + q := by simp [numV, b1]
  have ob : numOk (dec2 (p + q)) = true := by simp [numOk, b1]
  unfold slotsFrom slotsTo slotsOk slotsZ slotT
  by_cases h : 1 < q
  · rw [if_pos h, cut_eq, cut1_of 45 _ a2]
    refine ⟨?_, va, vb, by simp [oa, ob]⟩
    simp only [List.mem_append, List.mem_cons, not_or]
    exact ⟨a3, by decide, b3⟩
  · have : q = 1 := by omega
    subst this
    rw [if_neg (by omega), List.append_nil, cut_eq, cut1_miss 45 _ a2]
    exact ⟨a3, va, va, by simp [oa]⟩
theorem dayB_facts : ∀ k : Nat, k < 7 → 32 ∉ (dayB k).data.toList ∧ dayI (dayB k) = (k : Int) := by decide
theorem join_notin (c : UInt8) : ∀ (xs : List (List UInt8)), c ≠ 44 → (∀ x ∈ xs, c ∉ x) → c ∉ Lib.join xs [44]
  | [], _, _ => by simp [Lib.join_nil]
  | [x], _, h => by rw [Lib.join_one]; exact h x (by simp)
  | x :: y :: r, hc, h => by
    have : Lib.join (x :: y :: r) [44] = x ++ 44 :: Lib.join (y :: r) [44] := by simp [Lib.join, List.intercalate]
    rw [this]
    simp only [List.mem_append, List.mem_cons, not_or]
    exact ⟨h x (by simp), hc, join_notin c (y :: r) hc (fun z hz => h z (by simp [hz]))⟩
theorem runT_no32 {a b : Nat} (h1 : 1 ≤ a) (h2 : a < 30) (h3 : 1 ≤ b) (h4 : b < 30) : 32 ∉ runT (a, b) := by
  have ha := (dec2_all a h2 h1).2.2
  have hb := (dec2_all b h4 h3).2.2
  unfold runT
  split
  · exact ha
  · simp only [List.mem_append, List.mem_cons, not_or]
    exact ⟨ha, by decide, hb⟩
theorem wordName_no32 : ∀ k : Nat, k < 5 → 32 ∉ wordName k := by decide
theorem formatL_no32 {s n : Nat} (hn : n ≤ 20) : 32 ∉ formatL s n := by
  unfold formatL
  refine join_notin 32 _ (by decide) (fun x hx => ?_)
  unfold itemsT at hx
  by_cases h : nameIdx s n < 5
  · rw [if_pos h] at hx
    obtain rfl := List.mem_singleton.1 hx
    exact wordName_no32 _ h
  · rw [if_neg h] at hx
    obtain ⟨⟨a, b⟩, hr, rfl⟩ := List.mem_map.1 hx
    have := (runs_facts s.testBit n _ 1 (Nat.le_refl _) (Nat.le_refl _)).1 _ hr
    dsimp only at this
    exact runT_no32 (by omega) (by omega) (by omega) (by omega)
theorem map_data_inj : ∀ {xs ys : List ByteArray}, xs.map (·.data.toList) = ys.map (·.data.toList) → xs = ys
  | [], [], _ => rfl
  | [], _ :: _, h => by simp at h
  | _ :: _, [], h => by simp at h
  | x :: xs, y :: ys, h => by
    simp only [List.map_cons, List.cons.injEq] at h
    rw [map_data_inj h.2]
    congr 1
    apply ByteArray.ext
    exact Array.toList_inj.1 h.1
theorem split_text (s : ByteArray) (zs : List ByteArray) (h : splitOn1 32 s.data.toList = zs.map (·.data.toList)) : Lib.splitB ⟨#[32]⟩ 0 (Lib.countB s ⟨#[32]⟩) s = zs :=
  map_data_inj ((splitB_one 32 s).trans h)
/-- The text of a time is read as the time. -/
theorem parse_time {d s b m : Int} {N a k p q : Nat} (hw : weekB d s b m N = true) (hN1 : 1 ≤ N) (hN : N ≤ 20) (ha0 : 1 ≤ a) (ha : a < 2 ^ N) (hk : k < 7) (hkd : (k : Int) < d) (hq : 1 ≤ q) (hpq : p + q ≤ 24) (hps : (p : Int) + q ≤ s) :
    parseT d s b m N (Lib.splitB ⟨#[32]⟩ 0 (Lib.countB ⟨(timeT N a k p q).toArray⟩ ⟨#[32]⟩) ⟨(timeT N a k p q).toArray⟩) = ((a : Int), (k : Int), (p : Int), (q : Int), 0) := by
  obtain ⟨d1, d2⟩ := dayB_facts k hk
  obtain ⟨s1, s2, s3, s4⟩ := slotT_facts hq hpq
  have hsz : (⟨(slotT p q).toArray⟩ : ByteArray).size ≠ 0 := slotsOk_size (y := ⟨(slotT p q).toArray⟩) s4
  have hy : (⟨(slotT p q).toArray⟩ : ByteArray).data.toList = slotT p q := rfl
  by_cases hall : a = 2 ^ N - 1
  · have hz := split_text ⟨(timeT N a k p q).toArray⟩ [dayB k, ⟨(slotT p q).toArray⟩] (by
      show splitOn1 32 (timeT N a k p q) = [(dayB k).data.toList, slotT p q]
      unfold timeT
      rw [if_pos hall, List.append_nil, splitOn1_join 32 _ d1, splitOn1_none 32 _ s1])
    rw [hz]
    have he : slotE d s (dayB k) ⟨(slotT p q).toArray⟩ ⟨(slotT p q).toArray⟩ = 0 := slotE_0 (by omega) (by rw [hy]; exact s4) hsz (by rw [hy, s2, s3, d2]; omega)
    rw [parseT2_ok hw he, hy, s2, s3, d2]
    refine Prod.ext ?_ (Prod.ext rfl (Prod.ext ?_ (Prod.ext ?_ rfl)))
    · show (2 : Int) ^ (N : Int).toNat - 1 = (a : Int)
      have h1 := Nat.one_le_two_pow (n := N)
      rw [Int.toNat_natCast, hall]
      have : ((2 ^ N - 1 : Nat) : Int) = ((2 ^ N : Nat) : Int) - 1 := by omega
      rw [this]; simp
    · show ((p + 1 : Nat) : Int) - 1 = (p : Int); omega
    · show ((p + q : Nat) : Int) - ((p + 1 : Nat) : Int) + 1 = (q : Int); omega
  · have hfz : (⟨(formatL a N).toArray⟩ : ByteArray).size ≠ 0 := by
      intro e
      have hp := parse_format hN1 hN ha (by omega : a ≠ 0)
      have hl : formatL a N = [] := List.eq_nil_of_length_eq_zero (by simpa [ByteArray.size] using e)
      rw [hl] at hp
      have : parseV ⟨#[]⟩ (N : Int) = (0, 4) ∨ (parseV ⟨#[]⟩ (N : Int)).1 = 0 := by
        right
        unfold parseV
        rw [if_neg (by omega), Int.toNat_natCast]
        show (itemsV N [[]] 0).1 = 0
        rw [itemsV_cons]
        have : itemV [] N = (0, 4) := rfl
        rw [this]; rfl
      have h1 := congrArg Prod.fst hp
      dsimp only at h1
      rcases this with h | h
      · have := congrArg Prod.fst h
        dsimp only at this
        omega
      · have : (parseV ⟨#[]⟩ (N : Int)).1 = a := h1
        omega
    have hz := split_text ⟨(timeT N a k p q).toArray⟩ [dayB k, ⟨(slotT p q).toArray⟩, ⟨(formatL a N).toArray⟩] (by
      show splitOn1 32 (timeT N a k p q) = [(dayB k).data.toList, slotT p q, formatL a N]
      unfold timeT
      rw [if_neg hall, List.append_assoc, List.cons_append, splitOn1_join 32 _ d1, splitOn1_join 32 _ s1, splitOn1_none 32 _ (formatL_no32 hN)])
    rw [hz]
    have he : slotE d s (dayB k) ⟨(slotT p q).toArray⟩ ⟨(formatL a N).toArray⟩ = 0 := slotE_0 (by omega) (by rw [hy]; exact s4) hfz (by rw [hy, s2, s3, d2]; omega)
    have hpv := parse_format hN1 hN ha (by omega : a ≠ 0)
    rw [parseT3_ok hw he (by rw [hpv]), hpv, hy, s2, s3, d2]
    refine Prod.ext rfl (Prod.ext rfl (Prod.ext ?_ (Prod.ext ?_ rfl)))
    · show ((p + 1 : Nat) : Int) - 1 = (p : Int); omega
    · show ((p + q : Nat) : Int) - ((p + 1 : Nat) : Int) + 1 = (q : Int); omega
theorem timeT_len {n a k p q : Nat} (hn : n ≤ 20) : (timeT n a k p q).length ≤ 200 := by
  have h1 := dayB_size k
  have h2 := dec2_len (p + 1)
  have h3 := dec2_len (p + q)
  have h4 := formatL_len a n hn
  rw [← ba_len] at h1
  unfold timeT slotT
  split <;> split <;> simp only [List.length_append, List.length_cons, List.length_nil] <;> omega
end Go.Proofs.YtimcdikeajbabaaGreatDoor
