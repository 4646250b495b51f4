/- Walk of timetableref10.starts. Conditions: a text shorter than 2^30 bytes; bounds of lengths and slots; what the program's variables hold. Plain: a list of at most eight codes. No condition. What the document's reading of a room gives, beside the program's (plain). No walk. What the reading of a class gives (plain). No walk. -/
import Derived.Test.YtimcdikeajbabaaGreatDoorRows
import Derived.WalkKit
import Derived.WalkSpells
import Derived.WalkLawsBesides
import Derived.BigGuardPart
import Derived.Lib.Hide
import Derived.Laws.BitsAllLaws
import Derived.Laws.BitsLemmas
import Derived.Lib.LaidTab
import Derived.Test.YtimcdikeajbabaaGreatDoorShelf
import Derived.Lib.ConvBytes
import Derived.Deep.QuietTactic
import Derived.BigQuiet
import Derived.Test.YtimcdikeajbabaaGreatDoorShelfS
import Derived.Laws.ResultCell
import Derived.RegionTactic
import Derived.BigRegion
import Derived.Deep.RegionHeld3
import Derived.Deep.DeepCutAuto
import Derived.Lib.SmallJoins
import Derived.Lib.SplitLaws
import Derived.Lib.CountLaws
import Derived.Lib.IndexMore
import Derived.Lib.Split
import Derived.Lib.Join
import Derived.Lib.ItoaNum
import Derived.Laws.AppendOwn
import Derived.Test.YtimcdikeajbabaaGreatDoorShelfT
import Derived.Lib.ItoaLen
import Derived.Lib.AppendIntMem
import Derived.Deep.AppendLies
import Derived.Lib.PathFns
import Derived.Maps.Range
import Derived.Lib.OwnBridge
import Derived.Sort.OwnSorted
import Derived.Sort.Walk0
import Derived.Test.YtimcdikeajbabaaGreatDoorCards
import Derived.Test.YtimcdikeajbabaaGreatDoorTie
import Derived.ProofKit
import Derived.OpenShut
import Derived.LaidMore
import Derived.Lay
import Derived.SevenTiedAt
import Derived.Stop.Joined
import Derived.Stop.LaidErr
import Derived.Deep.DeepHandedRow
import Derived.Lib.LaidU8
import Derived.LaidSub
import Derived.Deep.Slices
import Derived.Deep.Fields
import Derived.ChangeSame
import Derived.Deep.RegionLaw
import Derived.Deep.RegionLawGrows
import Derived.Shelf.SlSortCmp.NoneTotal
import Derived.Ground.SlsfProg
import Derived.Lib.SliceRun
import Derived.Lib.Walk
import Derived.Test.YtimcdikeajbabaaGreatDoorZStaffB
import Derived.Test.YtimcdikeajbabaaGreatDoorZR9A
import Derived.Test.YtimcdikeajbabaaGreatDoorZCBox
import Derived.Test.YtimcdikeajbabaaGreatDoorZHasK
import Derived.Test.YtimcdikeajbabaaGreatDoorZAppAt
import Derived.Test.YtimcdikeajbabaaGreatDoorZTgM
import Derived.Test.YtimcdikeajbabaaGreatDoorZFound
import Derived.Test.YtimcdikeajbabaaGreatDoorZIdxS
import Derived.Test.YtimcdikeajbabaaGreatDoorZSorted
import Derived.Test.YtimcdikeajbabaaGreatDoorZPatRd
import Derived.Test.YtimcdikeajbabaaGreatDoorZROneP
namespace Go.Proofs.YtimcdikeajbabaaGreatDoor
open Go.RowKit
set_option maxRecDepth 100000

theorem At.drop_start {S : Nat → Prop} {w : World} {b off k : Nat} {l : List (Int × Int)} (h : At kStart S w (some ⟨b, off, none⟩) l) : At kStart S w (some ⟨b, off + k * 2, none⟩) (l.drop k) := by
  intro hn
  rw [List.length_drop] at hn
  obtain ⟨b', off', e, hs, hlt, hc⟩ := h (by omega)
  injection e with e
  injection e with e1 e2
  subst e1 e2
  refine ⟨b, off + k * 2, rfl, hs, hlt, fun j x hx => ?_⟩
  rw [List.getElem?_drop] at hx
  obtain ⟨vs, hr, hcell⟩ := hc (k + j) x hx
  refine ⟨vs, hr, fun i u hu => ?_⟩
  have := hcell i u hu
  rw [show off + (k + j) * kStart.k + i = off + k * 2 + j * kStart.k + i from by rw [show kStart.k = 2 from rfl, Nat.add_mul]; omega] at this
  exact this
theorem step_own_appS {P : Program} {t2 t : TypeId} {B bytes ns cs : Nat} {w : World} {As : Option Addr} {l : List (Int × Int)} {ops : Array Oper} {o : Oper} {a : Act} {K' : Act → World → Prop} {Q : Exit → Act → World → Prop} {E : Prop} (hgd : o.guard = none) (s x : Operand)
    (ho : o.op = .call { callee := .builtin .append, args := #[s, x], argTypes := #[t2, t2] }) (hA : Apd P t2 t 2 bytes) (hs : a.eval s = .slice As ns cs) (h : Own kStart t [] 0 B w (.slice As ns cs) l) {F : Option Addr} {es : List (Int × Int)} {k c : Nat} (hk0 : es.length = k) (hpos : 0 < k) (hx : a.eval x = .slice F k c) (hF : At kStart AnyB w F es) (hl : l.length + k ≤ 4000000000) (hby : bytes ≤ 1000) (hB : B ≤ w.heap.size)
    (hk : ∀ g cap w', Own kStart t [] 0 B w' (.slice (some ⟨g, 0, none⟩) (l.length + k) cap) (l ++ es) → w.grownBy w' (Value.slice As ns cs).ownBlock → g < w'.heap.size → K' (a.put o.dst (.slice (some ⟨g, 0, none⟩) (l.length + k) cap)) w') :
    if Region.wanted o (yielded ops a.tmps) = true then Oper.wp P o a w K' Q else E := by
  obtain ⟨i, z, hi, hz, h1, h2, h3⟩ := hA.i
  obtain ⟨b, off, vss, rfl, hb, hvl, hrep, hc⟩ := hF.rows (by omega)
  obtain ⟨vs0, e1, e2, e3⟩ := h
  obtain ⟨r1, r2⟩ := reps_len es vss hvl hrep
  refine step_append_lies w hgd s x t2 ho B t i z 2 bytes hA.u hi hz h1 h2 h3 (by decide) _ l.length vs0.flatten hs e2 ⟨b, off, none⟩ k c vss.flatten hx (by rw [r1, hk0]; rfl) (fun j u hj => by rw [Addr.add_lit]; exact hc j u hj) r2 hpos (by unfold maxLen; omega) (Nat.le_trans (Nat.mul_le_mul hl hby) (by decide)) hB w.heap.size rfl fun g cap w' hn hg _ hlt => hk g cap w' ?_ hg hlt
  have := Own.append (K := kStart) (B0 := 0) es vss vs0 e1 e2 e3 hvl (fun j x vs hj hv => hrep j x vs hj hv) (by simp) (Nat.zero_le _) hg (v' := .slice (some ⟨g, 0, none⟩) (l.length + k) cap) (by rw [hk0]; exact hn)
  exact this
theorem firstE_here {f : ByteArray → Int} {zs : List ByteArray} {j : Nat} {z : ByteArray} (hz : zs[j]? = some z) (h0 : firstE f (zs.take j) = 0) (h : f z ≠ 0) : firstE f zs = f z := by
  obtain ⟨hj, e⟩ := List.getElem?_eq_some_iff.1 hz
  rw [← List.take_append_drop j zs, List.drop_eq_getElem_cons hj, e]
  exact firstE_zero_app h0 h
theorem numV_none (y : List UInt8) : numS 2 ⟨y.toArray⟩ = none ↔ numV y = 0 := by
  rw [numS_numL]
  show numL y = none ↔ _
  constructor
  · intro h; unfold numV; rw [h]; rfl
  · intro h
    cases hn : numL y with
    | none => rfl
    | some k =>
      have := numV_pos (l := y) (by unfold numOk; rw [hn]; rfl)
      omega
theorem numV_get (y : List UInt8) : (numS 2 ⟨y.toArray⟩).getD 0 = numV y := by
  rw [numS_numL]; rfl
/-- A start as the walk computes it. -/
theorem startV_cut {d sl len : Int} {z : ByteArray} {x y : List UInt8} {t : Bool} (hc : cut1 32 z.data.toList = (x, y, t)) :
    startV d sl len z = if t = false ∨ dayI ⟨x.toArray⟩ < 0 ∨ numV y = 0 then ((0, 0), 4) else if possB d sl len (dayI ⟨x.toArray⟩, ((numV y : Nat) : Int) - 1) = true then ((dayI ⟨x.toArray⟩, ((numV y : Nat) : Int) - 1), 0) else ((0, 0), 14) := by
  have e1 : spOf z = ⟨x.toArray⟩ := by unfold spOf; rw [cut_eq, hc]
  have e2 : spBehind z = ⟨y.toArray⟩ := by unfold spBehind; rw [cut_eq, hc]
  have e3 : spTwo z = t := by unfold spTwo; rw [cut_eq, hc]
  unfold startV
  rw [e1, e2, e3, numV_get]
  simp only [numV_none]
theorem posG_sameP {x : Int × Int} {out : List (Int × Int)} {k : Nat} (h : lessB x (out.getD k (0, 0)) = true) : posG lessB (0, 0) x out (k + 1) = posG lessB (0, 0) x out k := by rw [posG, if_pos h]
theorem posG_stopP {x : Int × Int} {out : List (Int × Int)} {k : Nat} (h : lessB x (out.getD k (0, 0)) = false) : posG lessB (0, 0) x out (k + 1) = k + 1 := by rw [posG, h]; rfl
theorem lessB_self (x : Int × Int) : lessB x x = false := by rw [lessB_no]; omega
/-- Where a start that is met already stands. -/
theorem met_at {x : Int × Int} {out : List (Int × Int)} {q : Nat} (hs : out.Pairwise (LeG lessB)) (hq : posG lessB (0, 0) x out out.length = q) (hm : x ∈ out) : 0 < q ∧ out[q - 1]? = some x := by
  obtain ⟨i, hi⟩ := List.getElem?_of_mem hm
  obtain ⟨hil, e⟩ := List.getElem?_eq_some_iff.1 hi
  have hql := posG_le (less := lessB) (dflt := (0, 0)) x out out.length
  rw [hq] at hql
  have hiq : i < q := by
    rcases Nat.lt_or_ge i q with h | h
    · exact h
    · exfalso
      have := posG_above (less := lessB) (dflt := (0, 0)) x out out.length i (by rw [hq]; exact h) hil
      rw [getD_atG hil, e, lessB_self] at this
      cases this
  refine ⟨by omega, ?_⟩
  have hb := posG_below (less := lessB) (dflt := (0, 0)) x out out.length (by omega)
  rw [hq, getD_atG (by omega)] at hb
  rw [List.getElem?_eq_getElem (by omega)]
  by_cases e2 : i = q - 1
  · subst e2; rw [e]
  · have h2 := List.pairwise_iff_getElem.1 hs i (q - 1) hil (by omega) (by omega)
    rw [e] at h2
    exact congrArg some (lessB_anti _ _ hb h2)
/-- What starts returns. -/
def StartsGives (d sl len : Int) (Z : List ByteArray) (w : World) (e : Ending) (w' : World) : Prop :=
  ∃ v, e = .returned (.tuple #[v, .int .i64 (startsRE d sl len Z)]) ∧ Own kStart 70 [] 0 w.heap.size w' v (if startsRE d sl len Z = 0 then ascP (Z.map (startP d sl len)) else []) ∧ Below w.heap.size w w'
set_option maxHeartbeats 16000000 in
theorem r10starts_walk (s : ByteArray) (len d sl b m : Int) (w : World) (hs : s.size < 1073741824) (hl : -100000 ≤ len ∧ len ≤ 100000) (hsl : -100000 ≤ sl ∧ sl ≤ 100000) (hS : Std w) (hD : Dys w) :
    Calls Tryz.prog 120 #[.string s, .int .i64 len, .agg #[.int .i64 d, .int .i64 sl, .int .i64 b, .int .i64 m]] w fun e w' => StartsGives d sl len (partsOf s) w e w' := by
  obtain ⟨zs, hz⟩ : ∃ zs, partsOf s = zs := ⟨_, rfl⟩
  have hb0 : Below w.heap.size w (w.alloc (.cells #[.int .i64 d, .int .i64 sl, .int .i64 b, .int .i64 m] 24)) := ext_alloc (Below.refl _ _) _
  by_cases h0 : s.size = 0
  · have e0 := isEmpty_true _ h0
    have e1 : s.toList = [] := List.isEmpty_iff.1 e0
    have hp : partsOf s = [] := by unfold partsOf; rw [if_pos h0]
    have hre : startsRE d sl len [] = 0 := rfl
    clear hS hD hz
    go_enter Tryz.func120, Tryz.ntmps120
    go_wp2
    go_ret2
    exact ⟨_, by rw [hp]; rfl, by rw [hp, hre]; exact Own.nil, hb0⟩
  · have e0 := isEmpty_false _ h0
    have e1 : s.toList ≠ [] := fun e => by rw [e] at e0; cases e0
    have hzl : zs.length ≤ 1073741825 := by have := partsOf_len s; rw [hz] at this; omega
    have hzm : ∀ z ∈ zs, z.size < 1073741824 := by have := partsOf_mem s; rw [hz] at this; intro z h; have := this z h; omega
    have hpar := r3parts_walk s hs h0 (w.alloc (.cells #[.int .i64 d, .int .i64 sl, .int .i64 b, .int .i64 m] 24))
    have bG := Box4.new w 24 (.int .i64 d) (.int .i64 sl) (.int .i64 b) (.int .i64 m)
    replace hzm := hide hzm
    unfold PartsG at hpar
    rw [hz] at hpar ⊢
    replace hz := hide hz
    go_enter Tryz.func120, Tryz.ntmps120
    go_wp2_with fail
    refine hpar.mono ?_
    clear hpar
    rintro e w1 ⟨v8, rfl, hpo, hb1⟩
    obtain ⟨A8, c8, rfl⟩ := owns_form hpo
    have bG1 := bG.later hb1
    have hS1 := (hS.alloc (.cells #[.int .i64 d, .int .i64 sl, .int .i64 b, .int .i64 m] 24)).after hb1
    have hD1 := hD.after (ext_trans hb0 hb1) hS
    replace hb0 := ext_trans hb0 hb1
    have hgl := bG1.lt
    obtain ⟨gb, hgb⟩ : ∃ gb, w.heap.size = gb := ⟨_, rfl⟩
    rw [hgb] at bG1 hgl ⊢
    obtain ⟨g0, g1, g2, g3⟩ := bG1
    obtain ⟨n, hlen⟩ : ∃ n, zs.length = n := ⟨_, rfl⟩
    rw [hlen] at hzl ⊢
    replace hlen := hide hlen
    replace hgb := hide hgb
    clear bG hb1 hS hD
    go_wp2
    go_loopw [9, 10] (fun v i wr => ∃ j : Nat, j ≤ n ∧ i = .int .i64 j ∧ Own kStart 70 [] 0 w1.heap.size wr v ((zs.take j).map (startP d sl len)) ∧ Hid (firstE (startE d sl len) (zs.take j) = 0) ∧ Below w1.heap.size w1 wr) (fun _ i _ => n - (intOf i).toNat)
    case atStart => exact ⟨0, Nat.zero_le _, rfl, Own.nil, hide rfl, Below.refl _ _⟩
    case round =>
      obtain ⟨j, hj, rfl, hown, hfe, hb⟩ := hrel
      by_cases hlt : j < n
      · obtain ⟨z, hzj⟩ : ∃ z, zs[j]? = some z := ⟨_, List.getElem?_eq_getElem (by rw [hlen.out]; exact hlt)⟩
        have hzz := hide (hzm.out z (List.mem_of_getElem? hzj))
        obtain ⟨bs, rfl, hbs, hcl⟩ := own_at hpo (by rw [hlen.out]; omega)
        have hcj := cell_later hb (hcl j (.string z) (by rw [List.getElem?_map, hzj]; rfl))
        obtain ⟨x, y, t, hc⟩ : ∃ x y t, cut1 32 z.data.toList = (x, y, t) := ⟨_, _, _, rfl⟩
        have hV := startV_cut (d := d) (sl := sl) (len := len) hc
        have hts : Hid ((zs.take (j + 1)).map (startP d sl len) = (zs.take j).map (startP d sl len) ++ [startP d sl len z]) := hide (take_map _ zs j z hzj)
        have hes := hide ((take_first (startE d sl len) zs j z hzj).trans (if_pos hfe.out))
        have hbad : Hid (startE d sl len z ≠ 0 → startsRE d sl len zs = startE d sl len z) := hide fun he => by
          unfold startsRE
          rw [firstE_here hzj hfe.out he, if_pos he]
        have hml : ((zs.take j).map (startP d sl len)).length ≤ 4000000000 := by rw [List.length_map, List.length_take]; omega
        obtain ⟨P, hP⟩ : ∃ P, (zs.take j).map (startP d sl len) = P := ⟨_, rfl⟩
        rw [hP] at hown hts hml
        have hDr := hD1.after hb hS1
        have p0 := cell_later hb g0
        have p1 := cell_later hb g1
        have p2 := cell_later hb g2
        have p3 := cell_later hb g3
        have hgr : gb < wr.heap.size := World.block_lt_of_cell? _ _ p0
        have hbr : bs < wr.heap.size := World.block_lt_of_cell? _ _ hcj
        have hnb := numV_le y
        have hcut := hide (fun V : World => r5Cut_walk z 32 32 rfl x y t hzz.out hc V)
        have hsm := hide (fun V : World => small_walk ⟨y.toArray⟩ V)
        have hwd := hide (weekday_walk ⟨x.toArray⟩)
        rw [show (ByteArray.mk y.toArray).data.toList = y from rfl] at hsm
        obtain ⟨nv, hnv⟩ : ∃ nv, numV y = nv := ⟨_, rfl⟩
        obtain ⟨dy, hdy⟩ : ∃ dy, dayI ⟨x.toArray⟩ = dy := ⟨_, rfl⟩
        rw [hnv] at hV hsm hnb
        rw [hdy] at hV hwd
        have hj0 : (0 : Int) ≤ (j : Int) := by omega
        have hj1 : (j : Int) < (n : Int) := by omega
        have hj2 : IntKind.i64.wrap ((j : Int) + 1) = (j : Int) + 1 := IntWalk.i64_in _ (by omega)
        have hnw : IntKind.i64.wrap ((nv : Int) - 1) = (nv : Int) - 1 := IntWalk.i64_in _ (by omega)
        have hpo2 := fun (V : World) => r10poss_walk dy ((nv : Int) - 1) len d sl b m hl hsl V
        have hbn : Below wr.heap.size wr (wr.alloc (.cells #[.int .i64 dy, .int .i64 ((nv : Int) - 1)] 70)) := ext_alloc (Below.refl _ _) _
        clear hzj hc hP hnv hdy hfe hcl
        go_wp2_with fail
        refine (hcut.out _).mono ?_
        clear hcut
        rintro e wx ⟨rfl, hbx⟩
        have hbx1 := ext_trans hb hbx
        replace hown := hown.later hbx
        replace hDr := hDr.after hbx (hS1.after hb)
        replace p0 := cell_later hbx p0
        replace p1 := cell_later hbx p1
        replace p2 := cell_later hbx p2
        replace p3 := cell_later hbx p3
        have hgx : gb < wx.heap.size := World.block_lt_of_cell? _ _ p0
        clear hcj hbn hb hbx hgr hbr
        go_wp2_with fail
        refine (hsm.out _).mono ?_
        rintro e w' ⟨rfl, rfl⟩
        clear hsm
        go_wp2_with fail
        refine (hwd.out _ hDr).mono ?_
        rintro e w' ⟨rfl, rfl⟩
        clear hwd hDr
        have bye : ∀ E : Int, E ≠ 0 → startE d sl len z = E → ∀ w', Below w.heap.size w w' → StartsGives d sl len zs w (.returned (.tuple #[.slice none 0 0, .int .i64 E])) w' := fun E hE he w' hb' => by
          have hr := hbad.out (by rw [he]; exact hE)
          rw [he] at hr
          exact ⟨_, by rw [hr], by rw [hr, if_neg hE]; exact Own.nil, hb'⟩
        replace bye := hide bye
        clear hbad
        have hbz := ext_trans hb0 hbx1
        cases t with
        | false =>
          have hE : Hid (startE d sl len z = 4) := hide (by unfold startE; rw [hV, if_pos (Or.inl rfl)])
          clear hpo2 hown hts hes hV
          go_wp2
          go_ret2
          exact bye.out 4 (by decide) hE.out _ (ext_alloc hbz _)
        | true =>
          by_cases hd : dy < 0
          · have hE : Hid (startE d sl len z = 4) := hide (by unfold startE; rw [hV, if_pos (Or.inr (Or.inl hd))])
            clear hpo2 hown hts hes hV
            go_wp2
            go_ret2
            exact bye.out 4 (by decide) hE.out _ (ext_alloc hbz _)
          · by_cases hn0 : nv = 0
            · have hE : Hid (startE d sl len z = 4) := hide (by unfold startE; rw [hV, if_pos (Or.inr (Or.inr hn0))])
              have hnb0 : ((nv : Int) == 0) = true := by rw [hn0]; rfl
              clear hpo2 hown hts hes hV
              replace hn0 := hide hn0
              go_wp2
              go_ret2
              exact bye.out 4 (by decide) hE.out _ (ext_alloc hbz _)
            · have hnb0 : ((nv : Int) == 0) = false := by simpa using hn0
              rw [if_neg (by simp only [Bool.true_eq_false, false_or, not_or]; exact ⟨hd, hn0⟩)] at hV
              obtain ⟨wb, hwb⟩ : ∃ wb, wx.alloc (.cells #[.int .i64 dy, .int .i64 ((nv : Int) - 1)] 70) = wb := ⟨_, rfl⟩
              obtain ⟨xb, hxb⟩ : ∃ xb, wx.heap.size = xb := ⟨_, rfl⟩
              have c0 : wb.cell? ⟨xb, 0, none⟩ = some (.int .i64 dy) := by rw [← hwb, ← hxb]; simp
              have c1 : wb.cell? ⟨xb, 1, none⟩ = some (.int .i64 ((nv : Int) - 1)) := by rw [← hwb, ← hxb]; simp
              have hwxb : Below wx.heap.size wx wb := by rw [← hwb]; exact ext_alloc (Below.refl _ _) _
              have hownb := hown.later hwxb
              have hb1b := ext_trans hbx1 hwxb
              have hbzb := ext_trans hbz hwxb
              replace hwb := hide hwb
              replace hxb := hide hxb
              replace hpo2 := hpo2 wb
              cases hp : possB d sl len (dy, (nv : Int) - 1) with
              | false =>
                rw [hp] at hpo2
                have hE : Hid (startE d sl len z = 14) := hide (by unfold startE; rw [hV, if_neg (by rw [hp]; simp)])
                clear hown hts hes hV hownb hp
                go_wp2_with fail
                all_goals try (exfalso; omega)
                rw [hwb.out, hxb.out]
                refine hpo2.mono ?_
                rintro e w4 ⟨rfl, hb4⟩
                go_wp2
                go_ret2
                exact bye.out 14 (by decide) hE.out _ (ext_trans hbzb hb4)
              | true =>
                rw [hp] at hpo2
                rw [if_pos hp] at hV
                have hE : Hid (startE d sl len z = 0) := hide (by unfold startE; rw [hV])
                have hPz : Hid (startP d sl len z = (dy, (nv : Int) - 1)) := hide (by unfold startP; rw [hV])
                clear hown hV bye hp
                go_wp2_with fail
                all_goals try (exfalso; omega)
                rw [hwb.out, hxb.out]
                refine hpo2.mono ?_
                rintro e w4 ⟨rfl, hb4⟩
                replace c0 := cell_later hb4 c0
                replace c1 := cell_later hb4 c1
                have hown4 := hownb.later hb4
                have hbb4 := ext_trans hb1b hb4
                have hz4 := hbb4.size
                have hxl : xb < w4.heap.size := World.block_lt_of_cell? _ _ c0
                clear hpo2 hownb hb4 hb1b hbzb hwxb p0 p1 p2 p3 hgx
                go_wp2_with (at_builtin; refine wpList_own (K := kStart) (t := 70) (ts := []) (B0 := 0) (B := w1.heap.size) rfl _ _ rfl apd_st (by decide) rfl (hown4.alloc _) hml (by decide) ⟨w4.heap.size, 0, none⟩ 1 rfl (dy, (nv : Int) - 1) [.int .i64 dy, .int .i64 ((nv : Int) - 1)] (start_rep _ _) (World.news_of_block (cs := #[.int .i64 dy, .int .i64 ((nv : Int) - 1)]) (t := 70) (fr := (0, 0)) (heap_alloc_new _ _)) (by decide) (Nat.zero_le _) (by rw [World.size_alloc]; omega) ?_; intro v' w5 hown5 hgrow)
                have hb5 : Below w1.heap.size w1 w5 := Below.grown (ext_alloc hbb4 _) hgrow (by rw [World.size_alloc]; omega) (fun y hy => (hown4.lt y hy).1)
                clear hown4 hbb4 hgrow c0 c1
                go_wp2
                go_roundw
                case rel => exact ⟨j + 1, by omega, by go_num, by rw [hts.out, hPz.out]; exact hown5, hide (by rw [hes.out, hE.out]), hb5⟩
                case measure => simp [intOf]; omega
      · obtain rfl : j = n := by omega
        have hjj : ¬ (j : Int) < (j : Int) := by omega
        have hall : zs.take j = zs := by rw [← hlen.out]; exact List.take_length
        rw [hall] at hown hfe
        have hRE : startsRE d sl len zs = if 24 < j then 2 else if freshTo (0, 0) (zs.map (startP d sl len)) j = false then 11 else 0 := by
          unfold startsRE
          rw [hfe.out, hlen.out, if_neg (by simp)]
        have hssl : (zs.map (startP d sl len)).length = j := by rw [List.length_map]; exact hlen.out
        obtain ⟨ss, hss⟩ : ∃ ss, zs.map (startP d sl len) = ss := ⟨_, rfl⟩
        rw [hss] at hown hRE hssl
        obtain ⟨A9, c9, rfl, -, hat9⟩ := hown.any
        rw [hssl]
        have hbz := ext_trans hb0 hb
        replace hss := hide hss
        replace hssl := hide hssl
        clear hall hfe hpo g0 g1 g2 g3 hS1 hD1 hgl hzm hown
        by_cases h24 : 24 < j
        · have h24i : (24 : Int) < (j : Int) := by omega
          rw [if_pos h24] at hRE
          replace hRE := hide hRE
          clear hat9
          go_wp2
          go_ret2
          exact ⟨_, by rw [hRE.out]; rfl, by rw [hRE.out]; exact Own.nil, hbz⟩
        · have h24i : ¬ (24 : Int) < (j : Int) := by omega
          rw [if_neg h24] at hRE
          replace hRE := hide hRE
          obtain ⟨n, hn⟩ : ∃ n, n = j := ⟨_, rfl⟩
          subst hn
          obtain ⟨w2, hw2⟩ : ∃ w2, w2 = wr := ⟨_, rfl⟩
          subst hw2
          replace hat9 := hide hat9.any
          go_wp2_with fail
          go_loopw [16, 17] (fun v i wr => ∃ j : Nat, j ≤ n ∧ i = .int .i64 j ∧ Own kStart 70 [] 0 w2.heap.size wr v (ascP (ss.take j)) ∧ Hid (freshTo (0, 0) ss j = true) ∧ Below w2.heap.size w2 wr) (fun _ i _ => n - (intOf i).toNat)
          case atStart => exact ⟨0, Nat.zero_le _, rfl, Own.nil, hide rfl, Below.refl _ _⟩
          case round =>
            clear hb
            obtain ⟨j, hj, rfl, hown, hfr0, hb⟩ := hrel
            by_cases hlt : j < n
            · obtain ⟨x, hx⟩ : ∃ x, ss[j]? = some x := ⟨_, List.getElem?_eq_getElem (by rw [hssl.out]; exact hlt)⟩
              have hnx : ascP (ss.take (j + 1)) = insG lessB (0, 0) (ascP (ss.take j)) x := ascG_take hx
              have hol : (ascP (ss.take j)).length = j := by
                have : (ascP (ss.take j)).length = (ss.take j).length := ascG_len _
                rw [this, List.length_take, hssl.out]; omega
              have hsrt : (ascP (ss.take j)).Pairwise (LeG lessB) := ascP_sorted _
              have hmem : x ∈ ascP (ss.take j) ↔ x ∈ ss.take j := (ascG_perm _).mem_iff
              have hdup : Hid (freshTo (0, 0) ss (j + 1) = !decide (x ∈ ss.take j)) := hide (by rw [freshTo, hfr0.out, Bool.true_and, List.getD_eq_getElem?_getD, hx]; exact congrArg (fun b => !b) (decide_eq_decide.2 Iff.rfl))
              obtain ⟨zb, zo, rfl, -, hzl, z0, z1⟩ := (hat9.out.later hb).start hx
              obtain ⟨out, hout⟩ : ∃ out, ascP (ss.take j) = out := ⟨_, rfl⟩
              rw [hout] at hown hnx hol hsrt hmem
              obtain ⟨A3, c3, rfl, hcap, hat0⟩ := hown.any
              have hat := hat0.any
              rw [hol] at hown hcap ⊢
              obtain ⟨x1, x2⟩ := x
              dsimp only at z0 z1
              have hmet := hide (fun (q : Nat) (hq : posG lessB (0, 0) (x1, x2) out j = q) (hm : (x1, x2) ∈ out) => met_at (q := q) hsrt (by rw [hol]; exact hq) hm)
              have hj0 : (0 : Int) ≤ (j : Int) := by omega
              have hj1 : (j : Int) < (n : Int) := by omega
              have hj2 : IntKind.i64.wrap ((j : Int) + 1) = (j : Int) + 1 := IntWalk.i64_in _ (by omega)
              replace hnx := hide hnx
              replace hol := hide hol
              replace hmem := hide hmem
              clear hx hout hat0 hsrt hfr0
              go_wp2_with fail
              obtain ⟨wo, hwo⟩ : ∃ wo, wo = wr := ⟨_, rfl⟩
              subst hwo
              have hze := hb.size
              go_loopw [18] (fun v wi => ∃ k : Nat, k ≤ j ∧ v = .int .i64 k ∧ Hid (posG lessB (0, 0) (x1, x2) out j = posG lessB (0, 0) (x1, x2) out k) ∧ Below wo.heap.size wo wi) (fun v _ => (intOf v).toNat)
              case atStart => exact ⟨j, Nat.le_refl _, rfl, hide rfl, Below.refl _ _⟩
              case round =>
                obtain ⟨k, hk, rfl, hps, hbi⟩ := hrel
                have v0 := cell_later hbi z0
                have v1 := cell_later hbi z1
                have hzl1 : zb < wr.heap.size := Nat.lt_of_lt_of_le hzl hbi.size
                by_cases hk0 : 0 < k
                · obtain ⟨p, hp⟩ : ∃ p, k = p + 1 := ⟨k - 1, by omega⟩
                  obtain ⟨y, hy⟩ : ∃ y, out[p]? = some y := ⟨_, List.getElem?_eq_getElem (by rw [hol.out]; omega)⟩
                  obtain ⟨ob, oo, rfl, -, hobl, u0, u1⟩ := (hat.later hbi).start hy
                  have hyd : out.getD p (0, 0) = y := by rw [List.getD_eq_getElem?_getD, hy]; rfl
                  obtain ⟨y1, y2⟩ := y
                  dsimp only at u0 u1
                  have hk1 : (0 : Int) < (k : Int) := by omega
                  have hki : (k : Int) - 1 = (p : Int) := by omega
                  have hkw : IntKind.i64.wrap (p : Int) = (p : Int) := IntWalk.i64_in _ (by omega)
                  have hp0 : (0 : Int) ≤ (p : Int) := by omega
                  have hpj : (p : Int) < (j : Int) := by omega
                  have hC : Cn4 zb (zo + j * 2) (.int .i64 x1) zb (zo + j * 2 + 1) (.int .i64 x2) ob (oo + p * 2) (.int .i64 y1) ob (oo + p * 2 + 1) (.int .i64 y2) wr := ⟨v0, v1, u0, u1⟩
                  have hCd := hC.drew
                  have hrefl := Below.refl wr.heap.size wr
                  have hls := fun (V : World) => r10less_walk x1 x2 y1 y2 V
                  replace hp := hide hp
                  cases hlv : lessB (x1, x2) (y1, y2) with
                  | true =>
                    rw [hlv] at hls
                    have hlc := hide (fun (V : World) (hV : Below wr.heap.size wr V) => (hls V).mono fun _ _ ⟨he, hb⟩ => (⟨he, ext_trans hV hb, hC.later (ext_trans hV hb)⟩ : _ = Ending.returned (.bool true) ∧ Below wr.heap.size wr _ ∧ Cn4 zb (zo + j * 2) (.int .i64 x1) zb (zo + j * 2 + 1) (.int .i64 x2) ob (oo + p * 2) (.int .i64 y1) ob (oo + p * 2 + 1) (.int .i64 y2) _))
                    have hnp : Hid (posG lessB (0, 0) (x1, x2) out j = posG lessB (0, 0) (x1, x2) out p) := hide (hps.out.trans (by rw [hp.out]; exact posG_sameP (by rw [hyd]; exact hlv)))
                    have hpk : p ≤ j ∧ p < k := by have := hp.out; omega
                    clear hy hyd hlv hps hls
                    go_upto_region 23 with fail
                    go_region_held3 (fun W' => W'.cell? ⟨zb, zo + j * 2, none⟩ = some (.int .i64 x1) ∧ W'.cell? ⟨zb, zo + j * 2 + 1, none⟩ = some (.int .i64 x2) ∧ W'.cell? ⟨ob, oo + p * 2, none⟩ = some (.int .i64 y1) ∧ W'.cell? ⟨ob, oo + p * 2 + 1, none⟩ = some (.int .i64 y2)) (first | ((repeat (first | (with_reducible assumption) | (with_reducible refine Cn4.alloc ?_ _) | (with_reducible refine Cn4.drew ?_) | (with_reducible refine Cn4.set ?_ ?_ ?_ ?_ ?_ _) | omega)); done)) (first | (go_at_call 100; (with_reducible refine (hlc.out _ ?_).mono ?_); (focus ((repeat (first | (with_reducible assumption) | (with_reducible refine ext_alloc ?_ _) | (with_reducible refine ext_drew ?_))); done)); rintro e w4 ⟨rfl, hb4, hx4⟩))
                    all_goals
                      have hbn := ext_trans hbi hb4
                      clear hlc hC hCd hrefl hx4 hb4
                      go_wp2_with fail
                      go_roundw
                      case rel => exact ⟨p, hpk.1, by go_num, hnp, by first | exact hbn | exact ext_drew hbn⟩
                      case measure => first | (simp [intOf]; done) | (simp [intOf]; omega)
                  | false =>
                    rw [hlv] at hls
                    have hlc := hide (fun (V : World) (hV : Below wr.heap.size wr V) => (hls V).mono fun _ _ ⟨he, hb⟩ => (⟨he, ext_trans hV hb, hC.later (ext_trans hV hb)⟩ : _ = Ending.returned (.bool false) ∧ Below wr.heap.size wr _ ∧ Cn4 zb (zo + j * 2) (.int .i64 x1) zb (zo + j * 2 + 1) (.int .i64 x2) ob (oo + p * 2) (.int .i64 y1) ob (oo + p * 2 + 1) (.int .i64 y2) _))
                    have hpp : Hid (posG lessB (0, 0) (x1, x2) out j = k) := hide (hps.out.trans (by rw [hp.out]; exact posG_stopP (by rw [hyd]; exact hlv)))
                    have hq' := hmet.out k hpp.out
                    have hkp : k - 1 = p := by have := hp.out; omega
                    rw [hkp, hy] at hq'
                    replace hq' := hide hq'
                    have hyo : (y1, y2) ∈ out := List.mem_of_getElem? hy
                    clear hy hyd hlv hps hls hmet hkp
                    go_upto_region 23 with fail
                    go_region_held3 (fun W' => W'.cell? ⟨zb, zo + j * 2, none⟩ = some (.int .i64 x1) ∧ W'.cell? ⟨zb, zo + j * 2 + 1, none⟩ = some (.int .i64 x2) ∧ W'.cell? ⟨ob, oo + p * 2, none⟩ = some (.int .i64 y1) ∧ W'.cell? ⟨ob, oo + p * 2 + 1, none⟩ = some (.int .i64 y2)) (first | ((repeat (first | (with_reducible assumption) | (with_reducible refine Cn4.alloc ?_ _) | (with_reducible refine Cn4.drew ?_) | (with_reducible refine Cn4.set ?_ ?_ ?_ ?_ ?_ _) | omega)); done)) (first | (go_at_call 100; (with_reducible refine (hlc.out _ ?_).mono ?_); (focus ((repeat (first | (with_reducible assumption) | (with_reducible refine ext_alloc ?_ _) | (with_reducible refine ext_drew ?_))); done)); rintro e w4 ⟨rfl, hb4, hx4⟩))
                    all_goals
                      have hbn := ext_trans hbi hb4
                      clear hlc hC hCd hrefl hb4 v0 v1 u0 u1 hzl1 hobl
                      obtain ⟨v0, v1, u0, u1⟩ := hx4
                      have hzl1 : zb < w4.heap.size := World.block_lt_of_cell? _ _ v0
                      have hobl : ob < w4.heap.size := World.block_lt_of_cell? _ _ u0
                      have heq0 := fun W : World => start_equal y1 y2 x1 x2 W
                      by_cases hd : y1 = x1 ∧ y2 = x2
                      · have heq : ∀ W : World, (Op.equalIn 10000 70 (.agg #[.int .i64 y1, .int .i64 y2]) (.agg #[.int .i64 x1, .int .i64 x2])).run Tryz.prog W = .ok true W := fun W => (heq0 W).trans (by rw [hd.1, hd.2]; simp)
                        have hff : Hid (startsRE d sl len zs = 11) := hide (by
                          have hm : (x1, x2) ∈ out := by rw [← hd.1, ← hd.2]; exact hyo
                          have h1 : freshTo (0, 0) ss (j + 1) = false := by rw [hdup.out, decide_eq_true (hmem.out.1 hm)]; rfl
                          rw [hRE.out, if_pos (freshTo_false h1 n (by omega))])
                        have hbf := ext_trans hbz (ext_trans hb hbn)
                        clear heq0 hd hyo hq' hat hown
                        go_upto_region 25 with fail
                        go_region
                        all_goals
                          clear heq
                          go_wp2
                          go_ret2
                          exact ⟨_, by rw [hff.out]; rfl, by rw [hff.out]; exact Own.nil, by first | exact hbf | exact ext_drew hbf⟩
                      · have heq : ∀ W : World, (Op.equalIn 10000 70 (.agg #[.int .i64 y1, .int .i64 y2]) (.agg #[.int .i64 x1, .int .i64 x2])).run Tryz.prog W = .ok false W := fun W => (heq0 W).trans (by
                          rw [show (y1 == x1 && y2 == x2) = false from by
                            cases h1 : (y1 == x1) <;> cases h2 : (y2 == x2) <;> simp_all])
                        have hfresh : Hid (freshTo (0, 0) ss (j + 1) = true) := hide (by
                          have hm : (x1, x2) ∉ out := fun hm => by
                            have h1 := (hq'.out hm).2
                            injection h1 with h1
                            injection h1 with h2 h3
                            exact hd ⟨h2, h3⟩
                          rw [hdup.out, decide_eq_false (fun h => hm (hmem.out.2 h))]; rfl)
                        clear heq0 hd hyo hq'
                        go_upto_region 25 with fail
                        go_region
                        all_goals
                          have hbz' : Below wo.heap.size wo w4.drew := ext_drew hbn
                          clear heq u0 u1 hobl hki hkw hp0 hpj hp hk1 hk0 v0 v1 hzl1 hbn hbi
                          obtain ⟨q, hqe⟩ : ∃ q, k = q := ⟨_, rfl⟩
                          rw [hqe] at hpp hk ⊢
                          clear hqe
                          obtain ⟨A3q, hA3q⟩ : ∃ A3q, some (⟨ob, oo, none⟩ : Addr) = A3q := ⟨_, rfl⟩
                          rw [hA3q] at hown hat ⊢
                          clear hA3q
                          obtain ⟨wz, hwz⟩ : ∃ wz, w4.drew = wz := ⟨_, rfl⟩
                          rw [hwz] at hbz' ⊢
                          clear hwz
                          (
                            have hownz := hown.later hbz'
                            have hatz := hat.later hbz'
                            have hbw : Below w2.heap.size w2 wz := ext_trans hb hbz'
                            have zz0 := cell_later hbz' z0
                            have zz1 := cell_later hbz' z1
                            have hzlz : zb < wz.heap.size := Nat.lt_of_lt_of_le hzl hbz'.size
                            have hq0 : (0 : Int) ≤ (q : Int) := by omega
                            have hq1 : (q : Int) ≤ (j : Int) := by omega
                            have hqc : (q : Int) ≤ (c3 : Int) := by omega
                            have hfr := hownz.front hk
                            clear hbz' hown hat hb z0 z1 hzl
                            have hWo : Below wz.heap.size wz ((wz.alloc (.cells #[.int .i64 x1, .int .i64 x2] 70)).drew) := ext_drew (ext_alloc (Below.refl _ _) _)
                            have hone : Own kStart 70 [] 0 wz.heap.size ((wz.alloc (.cells #[.int .i64 x1, .int .i64 x2] 70)).drew) (.slice (some ⟨wz.heap.size, 0, none⟩) 1 1) [(x1, x2)] :=
                              (Own.lit (K := kStart) (heap_alloc_new wz (.cells #[.int .i64 x1, .int .i64 x2] 70)) [(x1, x2)] [[.int .i64 x1, .int .i64 x2]] rfl rfl (by simp) (fun j x vs hj hv => by
                                match j, hj, hv with
                                | 0, hj, hv => simp at hj hv; subst hj hv; exact start_rep _ _
                                | j + 1, hj, _ => simp at hj) (Nat.le_refl _)).drew
                            have hfz := hfr.later hWo
                            have hfl : ∀ y, (Value.slice A3q q c3).ownBlock = some y → w2.heap.size ≤ y ∧ y < wz.heap.size := fun y hy => hfr.lt y hy
                            have hsz : wz.heap.size ≤ ((wz.alloc (.cells #[.int .i64 x1, .int .i64 x2] 70)).drew).heap.size := hWo.size
                            by_cases hqj : q = j
                            · subst hqj
                              have hql : (out.take q).length = q := by rw [List.length_take, hol.out]; omega
                              have hl1 : (out.take q).length + 1 ≤ 4000000000 := by rw [hql]; omega
                              have hfin : Hid (out.take q ++ [(x1, x2)] = ascP (ss.take (q + 1))) := hide (by
                                have hd : out.drop q = [] := List.drop_eq_nil_of_le (by rw [hol.out]; exact Nat.le_refl _)
                                rw [hnx.out]
                                unfold insG
                                rw [hol.out, hpp.out, hd])
                              cases A3q with
                              | none =>
                                go_upto_region 27 with fail
                                go_region_law (refine step_own_appS (P := Tryz.prog) (t2 := 45) (t := 70) (B := w2.heap.size) (As := none) (ns := q) (cs := c3) (l := out.take q) (F := some ⟨wz.heap.size, 0, none⟩) (es := [(x1, x2)]) (k := 1) (c := 1) (bytes := 16) rfl (.tmp 108) (.tmp 117) rfl apd_st (by simp [Act.eval]; done) hfz rfl (by decide) (by simp [Act.eval]; done) hone.any'.any hl1 (by decide) (Nat.le_trans hbw.size hsz) ?_; intro g5 c5 w5 ho5 hgr5 hgl5)
                                have hbf : Below w2.heap.size w2 w5 := below_grown (ext_trans hbw hWo) hgr5 (fun y hy => (hfl y hy).1)
                                rw [hql, hfin.out] at ho5
                                clear hgr5 hgl5 hfin hfl hfz hone hfr hownz hWo hnx hpp
                                go_wp2_with fail
                                go_roundw
                                case rel => exact ⟨q + 1, by omega, by go_num, ho5, hfresh, hbf⟩
                                case measure => first | (simp [intOf]; done) | (simp [intOf]; omega)
                              | some ad =>
                                by_cases hcq : c3 = q
                                · subst hcq
                                  go_upto_region 27 with fail
                                  go_region_law (refine step_own_appS (P := Tryz.prog) (t2 := 45) (t := 70) (B := w2.heap.size) (As := some ad) (ns := c3) (cs := c3) (l := out.take c3) (F := some ⟨wz.heap.size, 0, none⟩) (es := [(x1, x2)]) (k := 1) (c := 1) (bytes := 16) rfl (.tmp 108) (.tmp 117) rfl apd_st (by simp [Act.eval]; done) hfz rfl (by decide) (by simp [Act.eval]; done) hone.any'.any hl1 (by decide) (Nat.le_trans hbw.size hsz) ?_; intro g5 c5 w5 ho5 hgr5 hgl5)
                                  have hbf : Below w2.heap.size w2 w5 := below_grown (ext_trans hbw hWo) hgr5 (fun y hy => (hfl y hy).1)
                                  rw [hql, hfin.out] at ho5
                                  clear hgr5 hgl5 hfin hfl hfz hone hfr hownz hWo hnx hpp
                                  go_wp2_with fail
                                  go_roundw
                                  case rel => exact ⟨c3 + 1, by omega, by go_num, ho5, hfresh, hbf⟩
                                  case measure => first | (simp [intOf]; done) | (simp [intOf]; omega)
                                · go_upto_region 27 with fail
                                  go_region_law (refine step_own_appS (P := Tryz.prog) (t2 := 45) (t := 70) (B := w2.heap.size) (As := some ad) (ns := q) (cs := c3) (l := out.take q) (F := some ⟨wz.heap.size, 0, none⟩) (es := [(x1, x2)]) (k := 1) (c := 1) (bytes := 16) rfl (.tmp 108) (.tmp 117) rfl apd_st (by simp [Act.eval]; done) hfz rfl (by decide) (by simp [Act.eval]; done) hone.any'.any hl1 (by decide) (Nat.le_trans hbw.size hsz) ?_; intro g5 c5 w5 ho5 hgr5 hgl5)
                                  have hbf : Below w2.heap.size w2 w5 := below_grown (ext_trans hbw hWo) hgr5 (fun y hy => (hfl y hy).1)
                                  rw [hql, hfin.out] at ho5
                                  clear hgr5 hgl5 hfin hfl hfz hone hfr hownz hWo hnx hpp
                                  go_wp2_with fail
                                  go_roundw
                                  case rel => exact ⟨q + 1, by omega, by go_num, ho5, hfresh, hbf⟩
                                  case measure => first | (simp [intOf]; done) | (simp [intOf]; omega)
                            · have hcq : ¬ c3 = q := by omega
                              obtain ⟨g3, hg3, hgl⟩ : ∃ g3, A3q = some ⟨g3, 0, none⟩ ∧ g3 < wz.heap.size := by
                                obtain ⟨vss, -, e2, -⟩ := hownz
                                rcases e2.2 with ⟨e, h0⟩ | ⟨g3, cap, cur, e, hB, hg3, -⟩
                                · exfalso; have := hol.out; omega
                                · injection e with e
                                  exact ⟨g3, e, blk_lt hg3⟩
                              cases hg3
                              have hdr := (hatz.drop_start (k := q)).later hWo
                              rw [Nat.zero_add] at hdr
                              have hdl : (out.drop q).length = j - q := by rw [List.length_drop, hol.out]
                              have hql : (out.take q).length = q := by rw [List.length_take, hol.out]; omega
                              have hpos : 0 < j - q := by omega
                              have hw7 := hbw.size
                              have hfin : Hid (out.take q ++ ([(x1, x2)] ++ out.drop q) = ascP (ss.take (j + 1))) := hide (by
                                rw [hnx.out]
                                unfold insG
                                rw [hol.out, hpp.out]; rfl)
                              go_upto_region 27 with fail
                              have hl0 : ([(x1, x2)] : List (Int × Int)).length + (j - q) ≤ 4000000000 := by show 1 + (j - q) ≤ _; omega
                              have hl1 : ((out.take q).length : Nat) + (1 + (j - q)) ≤ 4000000000 := by rw [hql]; omega
                              have hle : ([(x1, x2)] ++ out.drop q).length = 1 + (j - q) := by rw [List.length_append]; exact congrArg (1 + ·) hdl
                              go_region_law (first | (refine step_own_appS (P := Tryz.prog) (t2 := 45) (t := 70) (B := wz.heap.size) (As := some ⟨wz.heap.size, 0, none⟩) (ns := 1) (cs := 1) (l := [(x1, x2)]) (F := some ⟨g3, q * 2, none⟩) (es := out.drop q) (k := j - q) (c := c3 - q) (bytes := 16) rfl (.tmp 113) (.tmp 116) rfl apd_st (by simp [Act.eval]; done) hone hdl hpos (by simp [Act.eval]; done) hdr hl0 (by decide) hsz ?_; intro g4 c4 w4 ho4 hgr4 hgl4; have hf4 := hfz.kept hgr4 (Or.inr (fun e => by simp [Value.ownBlock] at e; omega)) (fun y hy => ⟨Nat.zero_le _, fun h => by obtain ⟨-, cs, t', -, ht⟩ := h; simp at ht⟩)) | (refine step_own_appS (P := Tryz.prog) (t2 := 45) (t := 70) (B := w2.heap.size) (As := some ⟨g3, 0, none⟩) (ns := q) (cs := c3) (l := out.take q) (F := some ⟨g4, 0, none⟩) (es := [(x1, x2)] ++ out.drop q) (k := 1 + (j - q)) (c := c4) (bytes := 16) rfl (.tmp 108) (.tmp 117) rfl apd_st (by simp [Act.eval]; done) hf4 hle (by omega) (by simp [Act.eval]; done) ho4.any'.any hl1 (by decide) (Nat.le_trans (Nat.le_trans hw7 hsz) hgr4.size) ?_; intro g5 c5 w5 ho5 hgr5 hgl5))
                              have hbf : Below w2.heap.size w2 w5 := below_grown (below_grown (ext_trans hbw hWo) hgr4 (fun y hy => by simp [Value.ownBlock] at hy; omega)) hgr5 (fun y hy => (hfl y hy).1)
                              rw [hql, hfin.out] at ho5
                              have hqe : q + (1 + (j - q)) = j + 1 := by omega
                              rw [hqe] at ho5 ⊢
                              clear hgr5 hgr4 hgl4 hgl5 ho4 hf4 hfin hfl hfz hone hdr hfr hownz hWo hnx hpp
                              go_wp2_with fail
                              go_roundw
                              case rel => exact ⟨j + 1, by omega, by go_num, ho5, hfresh, hbf⟩
                              case measure => first | (simp [intOf]; done) | (simp [intOf]; omega))
                · have hk00 : k = 0 := by omega
                  have hpp : Hid (posG lessB (0, 0) (x1, x2) out j = k) := hide (by rw [hps.out, hk00]; rfl)
                  have hfresh : Hid (freshTo (0, 0) ss (j + 1) = true) := hide (by
                    have hm : (x1, x2) ∉ out := fun hm => by have := (hmet.out k hpp.out hm).1; omega
                    rw [hdup.out, decide_eq_false (fun h => hm (hmem.out.2 h))]; rfl)
                  have hk1 : ¬ (0 : Int) < (k : Int) := by omega
                  clear hps hk00
                  go_upto_region 23 with fail
                  go_quiet (fail)
                  have hb4 := ext_drewN hbi nq
                  obtain ⟨w4, hw4⟩ : ∃ w4, wr.drewN nq = w4 := ⟨_, rfl⟩
                  rw [hw4] at hb4 ⊢
                  clear hw4 v0 v1 hzl1 hbi
                  go_upto_region 25 with fail
                  go_quiet (fail)
                  have hbz' := ext_drewN hb4 nq
                  clear hk1 hk0 hb4
                  obtain ⟨q, hqe⟩ : ∃ q, k = q := ⟨_, rfl⟩
                  rw [hqe] at hpp hk ⊢
                  clear hqe
                  obtain ⟨A3q, hA3q⟩ : ∃ A3q, A3 = A3q := ⟨_, rfl⟩
                  rw [hA3q] at hown hat ⊢
                  clear hA3q
                  obtain ⟨wz, hwz⟩ : ∃ wz, w4.drewN nq = wz := ⟨_, rfl⟩
                  rw [hwz] at hbz' ⊢
                  clear hwz
                  (
                    have hownz := hown.later hbz'
                    have hatz := hat.later hbz'
                    have hbw : Below w2.heap.size w2 wz := ext_trans hb hbz'
                    have zz0 := cell_later hbz' z0
                    have zz1 := cell_later hbz' z1
                    have hzlz : zb < wz.heap.size := Nat.lt_of_lt_of_le hzl hbz'.size
                    have hq0 : (0 : Int) ≤ (q : Int) := by omega
                    have hq1 : (q : Int) ≤ (j : Int) := by omega
                    have hqc : (q : Int) ≤ (c3 : Int) := by omega
                    have hfr := hownz.front hk
                    clear hbz' hown hat hb z0 z1 hzl
                    have hWo : Below wz.heap.size wz ((wz.alloc (.cells #[.int .i64 x1, .int .i64 x2] 70)).drew) := ext_drew (ext_alloc (Below.refl _ _) _)
                    have hone : Own kStart 70 [] 0 wz.heap.size ((wz.alloc (.cells #[.int .i64 x1, .int .i64 x2] 70)).drew) (.slice (some ⟨wz.heap.size, 0, none⟩) 1 1) [(x1, x2)] :=
                      (Own.lit (K := kStart) (heap_alloc_new wz (.cells #[.int .i64 x1, .int .i64 x2] 70)) [(x1, x2)] [[.int .i64 x1, .int .i64 x2]] rfl rfl (by simp) (fun j x vs hj hv => by
                        match j, hj, hv with
                        | 0, hj, hv => simp at hj hv; subst hj hv; exact start_rep _ _
                        | j + 1, hj, _ => simp at hj) (Nat.le_refl _)).drew
                    have hfz := hfr.later hWo
                    have hfl : ∀ y, (Value.slice A3q q c3).ownBlock = some y → w2.heap.size ≤ y ∧ y < wz.heap.size := fun y hy => hfr.lt y hy
                    have hsz : wz.heap.size ≤ ((wz.alloc (.cells #[.int .i64 x1, .int .i64 x2] 70)).drew).heap.size := hWo.size
                    by_cases hqj : q = j
                    · subst hqj
                      have hql : (out.take q).length = q := by rw [List.length_take, hol.out]; omega
                      have hl1 : (out.take q).length + 1 ≤ 4000000000 := by rw [hql]; omega
                      have hfin : Hid (out.take q ++ [(x1, x2)] = ascP (ss.take (q + 1))) := hide (by
                        have hd : out.drop q = [] := List.drop_eq_nil_of_le (by rw [hol.out]; exact Nat.le_refl _)
                        rw [hnx.out]
                        unfold insG
                        rw [hol.out, hpp.out, hd])
                      cases A3q with
                      | none =>
                        go_upto_region 27 with fail
                        go_region_law (refine step_own_appS (P := Tryz.prog) (t2 := 45) (t := 70) (B := w2.heap.size) (As := none) (ns := q) (cs := c3) (l := out.take q) (F := some ⟨wz.heap.size, 0, none⟩) (es := [(x1, x2)]) (k := 1) (c := 1) (bytes := 16) rfl (.tmp 108) (.tmp 117) rfl apd_st (by simp [Act.eval]; done) hfz rfl (by decide) (by simp [Act.eval]; done) hone.any'.any hl1 (by decide) (Nat.le_trans hbw.size hsz) ?_; intro g5 c5 w5 ho5 hgr5 hgl5)
                        have hbf : Below w2.heap.size w2 w5 := below_grown (ext_trans hbw hWo) hgr5 (fun y hy => (hfl y hy).1)
                        rw [hql, hfin.out] at ho5
                        clear hgr5 hgl5 hfin hfl hfz hone hfr hownz hWo hnx hpp
                        go_wp2_with fail
                        go_roundw
                        case rel => exact ⟨q + 1, by omega, by go_num, ho5, hfresh, hbf⟩
                        case measure => first | (simp [intOf]; done) | (simp [intOf]; omega)
                      | some ad =>
                        by_cases hcq : c3 = q
                        · subst hcq
                          go_upto_region 27 with fail
                          go_region_law (refine step_own_appS (P := Tryz.prog) (t2 := 45) (t := 70) (B := w2.heap.size) (As := some ad) (ns := c3) (cs := c3) (l := out.take c3) (F := some ⟨wz.heap.size, 0, none⟩) (es := [(x1, x2)]) (k := 1) (c := 1) (bytes := 16) rfl (.tmp 108) (.tmp 117) rfl apd_st (by simp [Act.eval]; done) hfz rfl (by decide) (by simp [Act.eval]; done) hone.any'.any hl1 (by decide) (Nat.le_trans hbw.size hsz) ?_; intro g5 c5 w5 ho5 hgr5 hgl5)
                          have hbf : Below w2.heap.size w2 w5 := below_grown (ext_trans hbw hWo) hgr5 (fun y hy => (hfl y hy).1)
                          rw [hql, hfin.out] at ho5
                          clear hgr5 hgl5 hfin hfl hfz hone hfr hownz hWo hnx hpp
                          go_wp2_with fail
                          go_roundw
                          case rel => exact ⟨c3 + 1, by omega, by go_num, ho5, hfresh, hbf⟩
                          case measure => first | (simp [intOf]; done) | (simp [intOf]; omega)
                        · go_upto_region 27 with fail
                          go_region_law (refine step_own_appS (P := Tryz.prog) (t2 := 45) (t := 70) (B := w2.heap.size) (As := some ad) (ns := q) (cs := c3) (l := out.take q) (F := some ⟨wz.heap.size, 0, none⟩) (es := [(x1, x2)]) (k := 1) (c := 1) (bytes := 16) rfl (.tmp 108) (.tmp 117) rfl apd_st (by simp [Act.eval]; done) hfz rfl (by decide) (by simp [Act.eval]; done) hone.any'.any hl1 (by decide) (Nat.le_trans hbw.size hsz) ?_; intro g5 c5 w5 ho5 hgr5 hgl5)
                          have hbf : Below w2.heap.size w2 w5 := below_grown (ext_trans hbw hWo) hgr5 (fun y hy => (hfl y hy).1)
                          rw [hql, hfin.out] at ho5
                          clear hgr5 hgl5 hfin hfl hfz hone hfr hownz hWo hnx hpp
                          go_wp2_with fail
                          go_roundw
                          case rel => exact ⟨q + 1, by omega, by go_num, ho5, hfresh, hbf⟩
                          case measure => first | (simp [intOf]; done) | (simp [intOf]; omega)
                    · have hcq : ¬ c3 = q := by omega
                      obtain ⟨g3, hg3, hgl⟩ : ∃ g3, A3q = some ⟨g3, 0, none⟩ ∧ g3 < wz.heap.size := by
                        obtain ⟨vss, -, e2, -⟩ := hownz
                        rcases e2.2 with ⟨e, h0⟩ | ⟨g3, cap, cur, e, hB, hg3, -⟩
                        · exfalso; have := hol.out; omega
                        · injection e with e
                          exact ⟨g3, e, blk_lt hg3⟩
                      cases hg3
                      have hdr := (hatz.drop_start (k := q)).later hWo
                      rw [Nat.zero_add] at hdr
                      have hdl : (out.drop q).length = j - q := by rw [List.length_drop, hol.out]
                      have hql : (out.take q).length = q := by rw [List.length_take, hol.out]; omega
                      have hpos : 0 < j - q := by omega
                      have hw7 := hbw.size
                      have hfin : Hid (out.take q ++ ([(x1, x2)] ++ out.drop q) = ascP (ss.take (j + 1))) := hide (by
                        rw [hnx.out]
                        unfold insG
                        rw [hol.out, hpp.out]; rfl)
                      go_upto_region 27 with fail
                      have hl0 : ([(x1, x2)] : List (Int × Int)).length + (j - q) ≤ 4000000000 := by show 1 + (j - q) ≤ _; omega
                      have hl1 : ((out.take q).length : Nat) + (1 + (j - q)) ≤ 4000000000 := by rw [hql]; omega
                      have hle : ([(x1, x2)] ++ out.drop q).length = 1 + (j - q) := by rw [List.length_append]; exact congrArg (1 + ·) hdl
                      go_region_law (first | (refine step_own_appS (P := Tryz.prog) (t2 := 45) (t := 70) (B := wz.heap.size) (As := some ⟨wz.heap.size, 0, none⟩) (ns := 1) (cs := 1) (l := [(x1, x2)]) (F := some ⟨g3, q * 2, none⟩) (es := out.drop q) (k := j - q) (c := c3 - q) (bytes := 16) rfl (.tmp 113) (.tmp 116) rfl apd_st (by simp [Act.eval]; done) hone hdl hpos (by simp [Act.eval]; done) hdr hl0 (by decide) hsz ?_; intro g4 c4 w4 ho4 hgr4 hgl4; have hf4 := hfz.kept hgr4 (Or.inr (fun e => by simp [Value.ownBlock] at e; omega)) (fun y hy => ⟨Nat.zero_le _, fun h => by obtain ⟨-, cs, t', -, ht⟩ := h; simp at ht⟩)) | (refine step_own_appS (P := Tryz.prog) (t2 := 45) (t := 70) (B := w2.heap.size) (As := some ⟨g3, 0, none⟩) (ns := q) (cs := c3) (l := out.take q) (F := some ⟨g4, 0, none⟩) (es := [(x1, x2)] ++ out.drop q) (k := 1 + (j - q)) (c := c4) (bytes := 16) rfl (.tmp 108) (.tmp 117) rfl apd_st (by simp [Act.eval]; done) hf4 hle (by omega) (by simp [Act.eval]; done) ho4.any'.any hl1 (by decide) (Nat.le_trans (Nat.le_trans hw7 hsz) hgr4.size) ?_; intro g5 c5 w5 ho5 hgr5 hgl5))
                      have hbf : Below w2.heap.size w2 w5 := below_grown (below_grown (ext_trans hbw hWo) hgr4 (fun y hy => by simp [Value.ownBlock] at hy; omega)) hgr5 (fun y hy => (hfl y hy).1)
                      rw [hql, hfin.out] at ho5
                      have hqe : q + (1 + (j - q)) = j + 1 := by omega
                      rw [hqe] at ho5 ⊢
                      clear hgr5 hgr4 hgl4 hgl5 ho4 hf4 hfin hfl hfz hone hdr hfr hownz hWo hnx hpp
                      go_wp2_with fail
                      go_roundw
                      case rel => exact ⟨j + 1, by omega, by go_num, ho5, hfresh, hbf⟩
                      case measure => first | (simp [intOf]; done) | (simp [intOf]; omega))
            · obtain rfl : j = n := by omega
              have hjj : ¬ (j : Int) < (j : Int) := by omega
              have hall : ss.take j = ss := by rw [← hssl.out]; exact List.take_length
              rw [hall] at hown
              have hff : Hid (startsRE d sl len zs = 0) := hide (by rw [hRE.out, hfr0.out]; rfl)
              have hbf := ext_trans hbz hb
              have hfin := hide (hown.lower hbz.size)
              clear hown
              go_wp2
              go_ret2
              exact ⟨_, by rw [hff.out]; rfl, by rw [hff.out, if_pos rfl, hss.out]; exact hfin.out, hbf⟩
end Go.Proofs.YtimcdikeajbabaaGreatDoor

namespace Go.Proofs.YtimcdikeajbabaaGreatDoor
open Go.RowKit
set_option maxRecDepth 100000

/-- A list of at most eight codes. -/
def shortV (s : ByteArray) : Nat × List ByteArray := if (listV s).1 = 0 ∧ 8 < (listV s).2.length then (2, []) else listV s
theorem short_codes (line col : Int) (t : ByteArray) : codesP 8 line col t = if (shortV t).1 = 0 then none else some (line, col, ((shortV t).1 : Int)) := by
  unfold codesP shortV
  obtain ⟨⟨en, l⟩, hlv⟩ : ∃ r, listV t = r := ⟨_, rfl⟩
  rw [hlv]
  dsimp only
  by_cases he : en = 0
  · subst he
    by_cases h8 : 8 < l.length
    · simp [h8, noted]
    · simp [h8, noted]
  · simp [he, noted]
theorem short_ok {t : ByteArray} (h : (shortV t).1 = 0) : (shortV t).2 = (listV t).2 := by
  unfold shortV at h ⊢
  split at h
  · cases h
  · rename_i hh
    rw [if_neg hh]
theorem short_len (t : ByteArray) (h : (shortV t).1 = 0) : (shortV t).2.length ≤ 8 := by
  unfold shortV at h ⊢
  split at h
  · cases h
  · rename_i hh
    rw [if_neg hh]
    have : ¬ (8 < (listV t).2.length) := fun h8 => hh ⟨h, h8⟩
    omega
end Go.Proofs.YtimcdikeajbabaaGreatDoor

namespace Go.Proofs.YtimcdikeajbabaaGreatDoor
open Go.RowKit
set_option maxRecDepth 100000

/-- One record's step, told by the place and the error that the document's reading gives. -/
theorem gath_ke {α : Type} {n : Nat} {P : Int → List Fld → List α → Option Prob} {f : List Fld → α} {line : Int} {fs : List Fld} {st : RG α} {ke : Int × Int}
    (h1 : fs.length ≠ n → ke = (-1, 9)) (h2 : fs.length = n → P line fs st.ls = if ke.2 = 0 then none else some (line, placeOf fs ke.1, ke.2)) :
    gathStep n P f st (line, fs) = if ke.2 = 0 then ⟨st.ls ++ [f fs], st.lines ++ [line], st.ps⟩ else ⟨st.ls, st.lines, st.ps ++ [(line, placeOf fs ke.1, ke.2)]⟩ := by
  unfold gathStep
  dsimp only
  by_cases hn : fs.length = n
  · rw [if_pos hn, h2 hn]
    by_cases h0 : ke.2 = 0
    · rw [if_pos h0, if_pos h0]
    · rw [if_neg h0, if_neg h0]
  · rw [if_neg hn, h1 hn, if_neg (by decide)]
    rfl
end Go.Proofs.YtimcdikeajbabaaGreatDoor

namespace Go.Proofs.YtimcdikeajbabaaGreatDoor
open Go.RowKit
set_option maxRecDepth 100000

/-- The error of a length. -/
def lenE (sl : Int) (t : ByteArray) : Int := if numS 2 t = none then 4 else if sl < (((numS 2 t).getD 0 : Nat) : Int) then 3 else 0
def lenOf (t : ByteArray) : Int := (((numE 2 t).getD 0 : Nat) : Int)
def codeE (t : ByteArray) : Int := if codeB t = true then 0 else 10
def seatE (t : ByteArray) : Int := if numE 4 t = none then 4 else 0
/-- The problem of a class's fields. -/
def fieldsK (d sl n line : Int) (fs : List Fld) : Option Prob :=
  orP (orP (orP (orP (orP (orP (orP (orP (probOf line (colAt fs 1) (codeE (textAt fs 0))) (probOf line (colAt fs 2) (codeE (textAt fs 1)))) (probOf line (colAt fs 3) (codeE (textAt fs 2)))) (probOf line (colAt fs 4) (lenE sl (textAt fs 3)))) (probOf line (colAt fs 5) (patsRE n (slashOf (textAt fs 4))))) (probOf line (colAt fs 6) (seatE (textAt fs 5)))) (codesP 8 line (colAt fs 7) (textAt fs 6))) (codesP 8 line (colAt fs 8) (textAt fs 7))) (probOf line (colAt fs 9) (startsRE d sl (lenOf (textAt fs 3)) (partsOf (textAt fs 8))))
/-- The problem of the record of a class, behind others. -/
def clsP (d sl n line : Int) (fs : List Fld) (ls : List Cls) : Option Prob :=
  noted (noted (fieldsK d sl n line fs) (decide (0 ≤ idxS (textAt fs 0) (codesK ls))) (line, 0, 11)) (decide (24 ≤ ls.length)) (line, 0, 2)
def clsOf (d sl n : Int) (fs : List Fld) : Cls := (textAt fs 0, textAt fs 1, textAt fs 2, lenOf (textAt fs 3), (slashOf (textAt fs 4)).map (patV n), (((numE 4 (textAt fs 5)).getD 0 : Nat) : Int), ascS (listV (textAt fs 6)).2, ascS (listV (textAt fs 7)).2, ascP ((partsOf (textAt fs 8)).map (startP d sl (lenOf (textAt fs 3)))))
theorem num_prob {o : Option Nat} {line col : Int} : numP o (line, col, 4) = probOf line col (if o = none then 4 else 0) := by
  cases o <;> rfl
theorem code_prob {t : ByteArray} {line col : Int} : (if codeB t then none else some (line, col, (10 : Int))) = probOf line col (codeE t) := by
  unfold codeE
  cases codeB t <;> rfl
theorem cls_steps {d sl n line : Int} {fs : List Fld} {ls : List Cls} {k0 k1 k2 k3 k4 k5 k6 k7 k8 k9 : Nat} {t0 t1 t2 : ByteArray} {len seats : Int} {ps : List Int} {f6 f7 : List ByteArray} {ss : List (Int × Int)} {pr0 pr1 pr2 pr3 pr4 pr5 pr6 pr7 pr8 pr9 : Option Prob} (h0 : pr0 = none) (hk : k0 = 0)
    (a0 : pr0 = none → k1 = k0 + 1 ∧ t0 = textAt fs k0 ∧ pr1 = probOf line (colAt fs (k0 + 1)) (codeE (textAt fs k0))) (b0 : ∀ p, pr0 = some p → pr1 = some p)
    (a1 : pr1 = none → k2 = k1 + 1 ∧ t1 = textAt fs k1 ∧ pr2 = probOf line (colAt fs (k1 + 1)) (codeE (textAt fs k1))) (b1 : ∀ p, pr1 = some p → pr2 = some p)
    (a2 : pr2 = none → k3 = k2 + 1 ∧ t2 = textAt fs k2 ∧ pr3 = probOf line (colAt fs (k2 + 1)) (codeE (textAt fs k2))) (b2 : ∀ p, pr2 = some p → pr3 = some p)
    (a3 : pr3 = none → k4 = k3 + 1 ∧ len = lenOf (textAt fs k3) ∧ pr4 = probOf line (colAt fs (k3 + 1)) (lenE sl (textAt fs k3))) (b3 : ∀ p, pr3 = some p → pr4 = some p)
    (a4 : pr4 = none → k5 = k4 + 1 ∧ ps = (slashOf (textAt fs k4)).map (patV n) ∧ pr5 = probOf line (colAt fs (k4 + 1)) (patsRE n (slashOf (textAt fs k4)))) (b4 : ∀ p, pr4 = some p → pr5 = some p)
    (a5 : pr5 = none → k6 = k5 + 1 ∧ seats = (((numE 4 (textAt fs k5)).getD 0 : Nat) : Int) ∧ pr6 = probOf line (colAt fs (k5 + 1)) (seatE (textAt fs k5))) (b5 : ∀ p, pr5 = some p → pr6 = some p)
    (a6 : pr6 = none → k7 = k6 + 1 ∧ f6 = (listV (textAt fs k6)).2 ∧ pr7 = codesP 8 line (colAt fs (k6 + 1)) (textAt fs k6)) (b6 : ∀ p, pr6 = some p → pr7 = some p)
    (a7 : pr7 = none → k8 = k7 + 1 ∧ f7 = (listV (textAt fs k7)).2 ∧ pr8 = codesP 8 line (colAt fs (k7 + 1)) (textAt fs k7)) (b7 : ∀ p, pr7 = some p → pr8 = some p)
    (a8 : pr8 = none → k9 = k8 + 1 ∧ ss = (partsOf (textAt fs k8)).map (startP d sl len) ∧ pr9 = probOf line (colAt fs (k8 + 1)) (startsRE d sl len (partsOf (textAt fs k8)))) (b8 : ∀ p, pr8 = some p → pr9 = some p) :
    noted (noted pr9 (decide (0 ≤ idxS t0 (codesK ls))) (line, 0, 11)) (decide (24 ≤ ls.length)) (line, 0, 2) = clsP d sl n line fs ls ∧ (clsP d sl n line fs ls = none → (t0, t1, t2, len, ps, seats, ascS f6, ascS f7, ascP ss) = clsOf d sl n fs) := by
  subst h0 hk
  obtain ⟨rfl, rfl, hp1⟩ := a0 rfl
  have hmain : pr9 = fieldsK d sl n line fs ∧ (fieldsK d sl n line fs = none → (textAt fs 0, t1, t2, len, ps, seats, ascS f6, ascS f7, ascP ss) = clsOf d sl n fs) := by
    unfold fieldsK
    rw [show probOf line (colAt fs 1) (codeE (textAt fs 0)) = pr1 from hp1.symm]
    cases pr1 with
    | some p => rw [b8 p (b7 p (b6 p (b5 p (b4 p (b3 p (b2 p (b1 p rfl)))))))]; exact ⟨rfl, fun h => by cases h⟩
    | none =>
      obtain ⟨rfl, rfl, hp2⟩ := a1 rfl
      rw [show probOf line (colAt fs 2) (codeE (textAt fs 1)) = pr2 from hp2.symm]
      cases pr2 with
      | some p => rw [b8 p (b7 p (b6 p (b5 p (b4 p (b3 p (b2 p rfl))))))]; exact ⟨rfl, fun h => by cases h⟩
      | none =>
        obtain ⟨rfl, rfl, hp3⟩ := a2 rfl
        rw [show probOf line (colAt fs 3) (codeE (textAt fs 2)) = pr3 from hp3.symm]
        cases pr3 with
        | some p => rw [b8 p (b7 p (b6 p (b5 p (b4 p (b3 p rfl)))))]; exact ⟨rfl, fun h => by cases h⟩
        | none =>
          obtain ⟨rfl, rfl, hp4⟩ := a3 rfl
          rw [show probOf line (colAt fs 4) (lenE sl (textAt fs 3)) = pr4 from hp4.symm]
          cases pr4 with
          | some p => rw [b8 p (b7 p (b6 p (b5 p (b4 p rfl))))]; exact ⟨rfl, fun h => by cases h⟩
          | none =>
            obtain ⟨rfl, rfl, hp5⟩ := a4 rfl
            rw [show probOf line (colAt fs 5) (patsRE n (slashOf (textAt fs 4))) = pr5 from hp5.symm]
            cases pr5 with
            | some p => rw [b8 p (b7 p (b6 p (b5 p rfl)))]; exact ⟨rfl, fun h => by cases h⟩
            | none =>
              obtain ⟨rfl, rfl, hp6⟩ := a5 rfl
              rw [show probOf line (colAt fs 6) (seatE (textAt fs 5)) = pr6 from hp6.symm]
              cases pr6 with
              | some p => rw [b8 p (b7 p (b6 p rfl))]; exact ⟨rfl, fun h => by cases h⟩
              | none =>
                obtain ⟨rfl, rfl, hp7⟩ := a6 rfl
                rw [show codesP 8 line (colAt fs 7) (textAt fs 6) = pr7 from hp7.symm]
                cases pr7 with
                | some p => rw [b8 p (b7 p rfl)]; exact ⟨rfl, fun h => by cases h⟩
                | none =>
                  obtain ⟨rfl, rfl, hp8⟩ := a7 rfl
                  rw [show codesP 8 line (colAt fs 8) (textAt fs 7) = pr8 from hp8.symm]
                  cases pr8 with
                  | some p => rw [b8 p rfl]; exact ⟨rfl, fun h => by cases h⟩
                  | none =>
                    obtain ⟨rfl, rfl, hp9⟩ := a8 rfl
                    exact ⟨hp9, fun _ => rfl⟩
  unfold clsP
  rw [hmain.1]
  exact ⟨rfl, fun h => hmain.2 (noted_no (noted_no h))⟩
/-- The place and the error of a class's record. -/
def clsKE (d sl n : Int) (fs : List Fld) (ls : List Cls) : Int × Int :=
  if fs.length ≠ 9 then (-1, 9) else
  if codeB (textAt fs 0) = false then (0, 10) else
  if codeB (textAt fs 1) = false then (1, 10) else
  if codeB (textAt fs 2) = false then (2, 10) else
  if lenE sl (textAt fs 3) ≠ 0 then (3, lenE sl (textAt fs 3)) else
  if patsRE n (slashOf (textAt fs 4)) ≠ 0 then (4, patsRE n (slashOf (textAt fs 4))) else
  if numE 4 (textAt fs 5) = none then (5, 4) else
  if (shortV (textAt fs 6)).1 ≠ 0 then (6, ((shortV (textAt fs 6)).1 : Int)) else
  if (shortV (textAt fs 7)).1 ≠ 0 then (7, ((shortV (textAt fs 7)).1 : Int)) else
  if startsRE d sl (lenOf (textAt fs 3)) (partsOf (textAt fs 8)) ≠ 0 then (8, startsRE d sl (lenOf (textAt fs 3)) (partsOf (textAt fs 8))) else
  if 0 ≤ idxS (textAt fs 0) (codesK ls) then (-1, 11) else
  if ls.length = 24 then (-1, 2) else (0, 0)
theorem cls_ke (d sl n line : Int) (fs : List Fld) (ls : List Cls) (hl : ls.length ≤ 24) (h9 : fs.length = 9) :
    clsP d sl n line fs ls = if (clsKE d sl n fs ls).2 = 0 then none else some (line, placeOf fs (clsKE d sl n fs ls).1, (clsKE d sl n fs ls).2) := by
  have e9 : placeOf fs (-1) = 0 := rfl
  have e0 : placeOf fs 0 = colAt fs 1 := rfl
  have e1 : placeOf fs 1 = colAt fs 2 := rfl
  have e2 : placeOf fs 2 = colAt fs 3 := rfl
  have e3 : placeOf fs 3 = colAt fs 4 := rfl
  have e4 : placeOf fs 4 = colAt fs 5 := rfl
  have e5 : placeOf fs 5 = colAt fs 6 := rfl
  have e6 : placeOf fs 6 = colAt fs 7 := rfl
  have e7 : placeOf fs 7 = colAt fs 8 := rfl
  have e8 : placeOf fs 8 = colAt fs 9 := rfl
  unfold clsP fieldsK clsKE codeE seatE
  rw [short_codes, short_codes, if_neg (show ¬ fs.length ≠ 9 from fun h => h h9)]
  obtain ⟨s6, hs6⟩ : ∃ s, (shortV (textAt fs 6)).1 = s := ⟨_, rfl⟩
  obtain ⟨s7, hs7⟩ : ∃ s, (shortV (textAt fs 7)).1 = s := ⟨_, rfl⟩
  obtain ⟨l3, hl3⟩ : ∃ s, lenE sl (textAt fs 3) = s := ⟨_, rfl⟩
  obtain ⟨p4, hp4⟩ : ∃ s, patsRE n (slashOf (textAt fs 4)) = s := ⟨_, rfl⟩
  obtain ⟨t8, ht8⟩ : ∃ s, startsRE d sl (lenOf (textAt fs 3)) (partsOf (textAt fs 8)) = s := ⟨_, rfl⟩
  rw [hs6, hs7, hl3, hp4, ht8]
  cases codeB (textAt fs 0) with
  | false => simp [orP, noted, probOf, e0]
  | true =>
    cases codeB (textAt fs 1) with
    | false => simp [orP, noted, probOf, e1]
    | true =>
      cases codeB (textAt fs 2) with
      | false => simp [orP, noted, probOf, e2]
      | true =>
        by_cases h3 : l3 = 0
        · by_cases h4 : p4 = 0
          · cases numE 4 (textAt fs 5) with
            | none => simp [orP, noted, probOf, h3, h4, e5]
            | some k =>
              by_cases h6 : s6 = 0
              · by_cases h7 : s7 = 0
                · by_cases h8 : t8 = 0
                  · by_cases hi : 0 ≤ idxS (textAt fs 0) (codesK ls)
                    · simp [orP, noted, h3, h4, h6, h7, h8, probOf, hi, e9]
                    · by_cases h24 : ls.length = 24
                      · simp [orP, noted, h3, h4, h6, h7, h8, probOf, hi, h24, e9]
                      · have : ¬ 24 ≤ ls.length := by omega
                        simp [orP, noted, h3, h4, h6, h7, h8, probOf, hi, h24, this]
                  · simp [orP, noted, h3, h4, h6, h7, h8, probOf, e8]
                · simp [orP, noted, h3, h4, h6, h7, probOf, e7]
              · simp [orP, noted, h3, h4, h6, probOf, e6]
          · simp [orP, noted, h3, h4, probOf, e4]
        · simp [orP, noted, h3, probOf, e3]
theorem cls_step {d sl n line : Int} {fs : List Fld} {st : RG Cls} (hl : st.ls.length ≤ 24) :
    gathStep 9 (clsP d sl n) (clsOf d sl n) st (line, fs) = if (clsKE d sl n fs st.ls).2 = 0 then ⟨st.ls ++ [clsOf d sl n fs], st.lines ++ [line], st.ps⟩ else ⟨st.ls, st.lines, st.ps ++ [(line, placeOf fs (clsKE d sl n fs st.ls).1, (clsKE d sl n fs st.ls).2)]⟩ :=
  gath_ke (fun h => if_pos h) (fun h => cls_ke d sl n line fs st.ls hl h)
theorem cls_place (d sl n : Int) (fs : List Fld) (ls : List Cls) : (clsKE d sl n fs ls).1 < fs.length := by
  unfold clsKE
  by_cases h9 : fs.length = 9
  · rw [if_neg (show ¬ fs.length ≠ 9 from fun h => h h9), h9]
    repeat' split
    all_goals first | decide | exact (show (3 : Int) < ((9 : Nat) : Int) by decide) | exact (show (4 : Int) < ((9 : Nat) : Int) by decide) | exact (show (6 : Int) < ((9 : Nat) : Int) by decide) | exact (show (7 : Int) < ((9 : Nat) : Int) by decide) | exact (show (8 : Int) < ((9 : Nat) : Int) by decide)
  · rw [if_pos h9]
    show (-1 : Int) < _
    omega
theorem clsP_len {d sl n : Int} (line : Int) (fs : List Fld) (ls : List Cls) (h : clsP d sl n line fs ls = none) : ls.length < 24 := by
  unfold clsP at h
  have := of_decide_eq_false (noted_none h).2
  omega
def readCls (d sl n : Int) (rs : List Rec) : RG Cls := readAll 9 (clsP d sl n) (clsOf d sl n) rs
theorem readCls_len (d sl n : Int) (rs : List Rec) : (readCls d sl n rs).ls.length ≤ 24 ∧ (readCls d sl n rs).lines.length = (readCls d sl n rs).ls.length ∧ (readCls d sl n rs).ps.length ≤ rs.length := readAll_len clsP_len rs
end Go.Proofs.YtimcdikeajbabaaGreatDoor
