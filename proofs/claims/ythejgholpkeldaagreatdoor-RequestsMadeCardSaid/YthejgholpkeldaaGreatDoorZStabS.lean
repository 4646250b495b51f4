/- Walk of slices.stableCmpFunc at requests, over the worlds of a sort. Conditions: the row's cells; fewer than 2^61 elements. -/
import Derived.Shelf.SlSortCmp.InsertionK
import Derived.Shelf.SlSortCmp.SiftDownK
import Derived.Shelf.SlSortCmp.KitK
import Derived.Shelf.SlSortCmp.ReverseRangeK
import Derived.Sort.LotA
import Derived.Test.YthejgholpkeldaaGreatDoorRows
import Derived.WalkKit
import Derived.WalkSpells
import Derived.WalkLawsBesides
import Derived.BigGuardPart
import Derived.Lib.Hide
import Derived.Laws.BitsAllLaws
import Derived.Laws.BitsLemmas
import Derived.Lib.LaidTab
import Derived.Test.YthejgholpkeldaaGreatDoorShelf
import Derived.Lib.ConvBytes
import Derived.Deep.QuietTactic
import Derived.BigQuiet
import Derived.Test.YthejgholpkeldaaGreatDoorZStabO
namespace Go.Proofs
open Go.Shelf
def Tryz.insReq_ren : Go.Shelf.Ren := ⟨fun | 20 => 141 | n => n, fun | 24 => 53 | 22 => 27 | 3 => 3 | 25 => 117 | 4 => 4 | 0 => 0 | n => n, fun | n => n⟩
theorem Tryz.insReq : Go.Proofs.SlLaysF0.n20 Tryz.prog Tryz.insReq_ren := {
  mixed := by kernel_rfl
  f20 := ⟨Tryz.f141.name, by decide, Tryz.func141.trans (congrArg some (by kernel_rfl))⟩
  t0 := Tryz.underlying0
  a0 := Tryz.isAgg0
  z0 := Tryz.sizeOf0
  v0 := Tryz.zeroValue0
  t3 := Tryz.underlying3
  a3 := Tryz.isAgg3
  z3 := Tryz.sizeOf3
  v3 := Tryz.zeroValue3
  t4 := Tryz.underlying4
  a4 := Tryz.isAgg4
  z4 := Tryz.sizeOf4
  v4 := Tryz.zeroValue4
  t22 := Tryz.underlying27
  a22 := Tryz.isAgg27
  z22 := Tryz.sizeOf27
  v22 := Tryz.zeroValue27
  t25 := Tryz.underlying117
  a25 := Tryz.isAgg117
  z25 := Tryz.sizeOf117
  v25 := Tryz.zeroValue117 }
end Go.Proofs
namespace Go.Proofs.YthejgholpkeldaaGreatDoor
open Go.RowKit Go.Lib Go.Sort Go.Shelf
set_option maxRecDepth 100000

section
variable {α : Type} [Inhabited α]
theorem ins_walk (k : Nat) (aE : ∀ w, (isAgg 53).run Tryz.prog w = .ok true w) (zE : ∀ w, (Go.sizeOf 53).run Tryz.prog w = .ok k w) (enc : α → List Value) (cf : α → α → Int) (g : Nat) (cb : Array Value) (blk off cap : Nat) (d0 : Array α) (w0 : World) (eg : ∀ args w, (callFunc g args).run Tryz.prog w = .ok (.enter g args) w) (hcmp : CmpLays Tryz.prog g cb enc k cf blk off d0.size w0) (R : RowK enc k w0 blk off d0) (hO : SWO (ltOf cf)) (a b : Nat) (d : Array α) (w : World) (hs : d0.size = d.size) (S : SWK enc k w0 blk off d w) (hab : a ≤ b) (hb : b ≤ d.size) (hsz : d.size < 4611686018427387904) :
    Calls Tryz.prog 141 #[.slice (some ⟨blk, off, none⟩) d.size cap, .int .i64 a, .int .i64 b, .func (.func g) #[] cb] w fun e w' => e = .returned (.tuple #[]) ∧ SWK enc k w0 blk off (insertionSort (ltOf cf) d a b) w' := by
  have hz : (insertionSort (ltOf cf) d a b).size = d.size := (insertionSort_holds hO d a b hab hb).1.1
  have hC : CmpLays Tryz.prog g cb enc k cf blk off d.size w := fun m os dk hdk x y => by
    obtain ⟨m0, os0, rfl⟩ := S
    have e := sortWorldK_on enc k w0 blk off m0 m d dk os0 os R.hblk hdk
    rw [e]
    exact hcmp _ _ dk (hdk.trans hs.symm) x y
  have hw := AnyQ.insertionSortCmpFunc Tryz.insReq k aE zE enc R.hk R.h1 cf g cb blk off cap a b d w eg hC (S.holds R.hblk R.hH hs.symm) (S.lt R.hblk) hab hb hsz
  change Calls Tryz.prog 141 _ _ _ at hw
  refine hw.mono ?_
  rintro e w' ⟨rfl, m, os, rfl⟩
  exact ⟨rfl, S.on R.hblk m _ os hz⟩
theorem insB_go {lt : α → α → Bool} {n f a : Nat} {d : Array α} (h : a + 20 ≤ n) (hf : n - a ≤ f) : ∃ f', f = f' + 1 ∧ insB lt n f a d = insB lt n f' (a + 20) (insertionSort lt d a (a + 20)) := by
  obtain ⟨f', rfl⟩ : ∃ f', f = f' + 1 := ⟨f - 1, by omega⟩
  exact ⟨f', rfl, by rw [insB, if_pos h]⟩
theorem insB_end {lt : α → α → Bool} {n f a : Nat} {d : Array α} (h : ¬ a + 20 ≤ n) : insB lt n f a d = insertionSort lt d a n := by
  cases f with
  | zero => rfl
  | succ f => rw [insB, if_neg h]
theorem mrgB_go {lt : α → α → Bool} {n k f a : Nat} {d : Array α} (hk : 0 < k) (h : a + 2 * k ≤ n) (hf : n - a ≤ f) : ∃ f', f = f' + 1 ∧ mrgB lt n k f a d = mrgB lt n k f' (a + 2 * k) (symM lt n d a (a + k) (a + 2 * k)) := by
  obtain ⟨f', rfl⟩ : ∃ f', f = f' + 1 := ⟨f - 1, by omega⟩
  exact ⟨f', rfl, by rw [mrgB, if_pos h]⟩
theorem mrgB_end {lt : α → α → Bool} {n k f a : Nat} {d : Array α} (h : ¬ a + 2 * k ≤ n) (hf : n - a ≤ f) : mrgB lt n k f a d = if a + k < n then symM lt n d a (a + k) n else d := by
  cases f with
  | zero => rw [mrgB, if_neg (by omega)]
  | succ f => rw [mrgB, if_neg h]
theorem stabB_go {lt : α → α → Bool} {n f k : Nat} {d : Array α} (h : k < n) (hf : n - k ≤ f) : ∃ f', f = f' + 1 ∧ stabB lt n f k d = stabB lt n f' (2 * k) (mrgB lt n k n 0 d) := by
  obtain ⟨f', rfl⟩ : ∃ f', f = f' + 1 := ⟨f - 1, by omega⟩
  exact ⟨f', rfl, by rw [stabB, if_pos h]⟩
theorem stabB_end {lt : α → α → Bool} {n f k : Nat} {d : Array α} (h : ¬ k < n) : stabB lt n f k d = d := by
  cases f with
  | zero => rfl
  | succ f => rw [stabB, if_neg h]
theorem ins_size {cf : α → α → Int} (hO : SWO (ltOf cf)) (d : Array α) (a b : Nat) (hab : a ≤ b) (hb : b ≤ d.size) : (insertionSort (ltOf cf) d a b).size = d.size := (insertionSort_holds hO d a b hab hb).1.1
set_option maxHeartbeats 8000000 in
theorem stab_walk (k : Nat) (aE : ∀ w, (isAgg 53).run Tryz.prog w = .ok true w) (zE : ∀ w, (Go.sizeOf 53).run Tryz.prog w = .ok k w) (enc : α → List Value) (cf : α → α → Int) (g : Nat) (cb : Array Value) (blk off cap : Nat) (d0 : Array α) (w0 : World) (eg : ∀ args w, (callFunc g args).run Tryz.prog w = .ok (.enter g args) w) (hcmp : CmpLays Tryz.prog g cb enc k cf blk off d0.size w0) (R : RowK enc k w0 blk off d0) (hO : SWO (ltOf cf)) (d : Array α) (w : World) (hs : d0.size = d.size) (S : SWK enc k w0 blk off d w) (hsz : d.size < 2305843009213693952) :
    Calls Tryz.prog 109 #[.slice (some ⟨blk, off, none⟩) d.size cap, .int .i64 d.size, .func (.func g) #[] cb] w fun e w' => e = .returned (.tuple #[]) ∧ SWK enc k w0 blk off (stable (ltOf cf) d.size d) w' := by
  have S0 : Aside (SWK enc k w0 blk off d w) := S
  have hI := hide (ins_walk k aE zE enc cf g cb blk off cap d0 w0 eg hcmp R hO)
  have hM := hide (symM_walk k aE zE enc cf g cb blk off cap d0 w0 eg hcmp R)
  clear S hcmp R eg aE zE
  obtain ⟨n, hn⟩ : ∃ n, d.size = n := ⟨_, rfl⟩
  obtain ⟨D0, hD0⟩ : ∃ D0, insB (ltOf cf) n n 0 d = D0 := ⟨_, rfl⟩
  obtain ⟨D1, hD1⟩ : ∃ D1, stabB (ltOf cf) n n 20 D0 = D1 := ⟨_, rfl⟩
  have hst : stable (ltOf cf) d.size d = D1 := by rw [stable, hn, hD0, hD1]
  rw [hst]
  clear hst
  have hn0 : d0.size = n := hs.trans hn
  rw [hn] at hsz ⊢
  replace hn := hide hn
  replace hn0 := hide hn0
  replace hD0 := hide hD0
  replace hD1 := hide hD1
  clear hs
  go_enter Tryz.func109, Tryz.ntmps109
  go_wp2_with fail
  go_loopg [7, 8] n (fun kx sa sb wr => ∃ (a b : Nat) (dk : Array α), sa = .int .i64 a ∧ sb = .int .i64 b ∧ Hid (b = a + 20 ∧ a ≤ n) ∧ Hid (n - a ≤ kx) ∧ Hid (dk.size = n) ∧ Aside (SWK enc k w0 blk off dk wr) ∧ Hid (insB (ltOf cf) n kx a dk = D0))
  case atStart => exact ⟨0, 20, d, rfl, rfl, hide ⟨rfl, Nat.zero_le _⟩, hide (Nat.sub_le _ _), hide hn.out, S0, hD0⟩
  case round =>
    clear S0
    obtain ⟨a, b, dk, rfl, rfl, hb, hkx, hdk, S1, hB⟩ := hrel
    by_cases hlt : b ≤ n
    · have hlti : (b : Int) ≤ (n : Int) := by omega
      obtain ⟨f', rfl, hgo⟩ := insB_go (lt := ltOf cf) (d := dk) (show a + 20 ≤ n by have := hb.out; omega) hkx.out
      rw [← hb.out.1] at hgo
      have hc := hI.out a b dk wr (by rw [hn0.out, hdk.out]) S1.out (by have := hb.out; omega) (by rw [hdk.out]; exact hlt) (by rw [hdk.out]; omega)
      rw [hdk.out] at hc
      have wb : IntKind.i64.wrap ((b : Int) + 20) = (b : Int) + 20 := by rw [IntKind.wrap_i64]; omega
      have hz2 : Hid ((insertionSort (ltOf cf) dk a b).size = n) := hide ((ins_size hO dk a b (by have := hb.out; omega) (by rw [hdk.out]; exact hlt)).trans hdk.out)
      have hB2 := hide (hgo.symm.trans hB.out)
      have hk2 : Hid (n - b ≤ f') := hide (by have := hkx.out; have := hb.out; omega)
      clear hgo hB hkx S1
      go_wp2_with fail
      refine hc.mono ?_
      clear hc
      rintro e w2 ⟨rfl, S2⟩
      go_wp2_with fail
      go_roundg f'
      case measure => omega
      case rel => exact ⟨b, b + 20, _, rfl, by go_num, hide ⟨rfl, hlt⟩, hk2, hz2, S2, hB2⟩
    · have hlti : ¬ (b : Int) ≤ (n : Int) := by omega
      have he := hide ((insB_end (lt := ltOf cf) (f := gk) (d := dk) (show ¬ a + 20 ≤ n by have := hb.out; omega)).symm.trans hB.out)
      have hc := hI.out a n dk wr (by rw [hn0.out, hdk.out]) S1.out hb.out.2 (by rw [hdk.out]; exact Nat.le_refl _) (by rw [hdk.out]; omega)
      rw [hdk.out, he.out] at hc
      have hz2 : Hid (D0.size = n) := hide (by rw [← he.out]; exact (ins_size hO dk a n hb.out.2 (by rw [hdk.out]; exact Nat.le_refl _)).trans hdk.out)
      clear he hB hkx S1 hlt hb
      go_wp2_with fail
      refine hc.mono ?_
      clear hc
      rintro e w2 ⟨rfl, S2⟩
      have S3 : Aside (SWK enc k w0 blk off D0 w2) := S2
      clear S2
      go_wp2_with fail
      go_loopg [6] n (fun kx sk wr => ∃ (m : Nat) (dk : Array α), sk = .int .i64 m ∧ 0 < m ∧ Hid (n - m ≤ kx) ∧ Hid (m < 4611686018427387904) ∧ Hid (dk.size = n) ∧ Aside (SWK enc k w0 blk off dk wr) ∧ Hid (stabB (ltOf cf) n kx m dk = D1))
      case atStart => exact ⟨20, D0, rfl, by decide, hide (by omega), hide (by decide), hz2, S3, hD1⟩
      case round =>
        clear S3
        obtain ⟨m, dk, rfl, hm0, hkx, hmz, hdk, S4, hB⟩ := hrel
        by_cases hlt : m < n
        · have hlti : (m : Int) < (n : Int) := by omega
          obtain ⟨f', rfl, hgo⟩ := stabB_go (lt := ltOf cf) (d := dk) hlt hkx.out
          have hB2 := hgo.symm.trans hB.out
          obtain ⟨D2, hD2⟩ : ∃ D2, mrgB (ltOf cf) n m n 0 dk = D2 := ⟨_, rfl⟩
          rw [hD2] at hB2
          obtain ⟨m2, hm2⟩ : ∃ m2, 2 * m = m2 := ⟨_, rfl⟩
          rw [hm2] at hB2
          have w2m : IntKind.i64.wrap (2 * (m : Int)) = (m2 : Int) := by rw [IntKind.wrap_i64]; omega
          have wm2 : IntKind.i64.wrap ((m : Int) * 2) = (m2 : Int) := by rw [IntKind.wrap_i64]; omega
          have hk2 : Hid (n - m2 ≤ f') := hide (by have := hkx.out; omega)
          have hb2 : Hid (m2 < 4611686018427387904 ∧ 0 < m2) := hide (by omega)
          replace hB2 := hide hB2
          replace hD2 := hide hD2
          replace hm2 := hide hm2
          clear hgo hB hkx
          go_wp2_with fail
          go_loopg [7, 8] n (fun ky sa sb wi => ∃ (a b : Nat) (dj : Array α), sa = .int .i64 a ∧ sb = .int .i64 b ∧ Hid (b = a + m2 ∧ a ≤ n) ∧ Hid (n - a ≤ ky) ∧ Hid (dj.size = n) ∧ Aside (SWK enc k w0 blk off dj wi) ∧ Hid (mrgB (ltOf cf) n m ky a dj = D2))
          case atStart => exact ⟨0, m2, dk, rfl, rfl, hide ⟨(Nat.zero_add _).symm, Nat.zero_le _⟩, hide (Nat.sub_le _ _), hdk, S4, hD2⟩
          case round =>
            clear S4
            obtain ⟨a, b, dj, rfl, rfl, hb, hky, hdj, S5, hB5⟩ := hrel
            by_cases hbl : b ≤ n
            · have hbli : (b : Int) ≤ (n : Int) := by omega
              obtain ⟨f2, hf2, hgo⟩ := mrgB_go (lt := ltOf cf) (d := dj) hm0 (show a + 2 * m ≤ n by have := hb.out; have := hm2.out; omega) hky.out
              subst hf2
              rw [show a + 2 * m = b by have := hb.out; have := hm2.out; omega] at hgo
              obtain ⟨am, ham⟩ : ∃ am, a + m = am := ⟨_, rfl⟩
              rw [ham] at hgo
              have hd : a < am ∧ am < b ∧ b = a + m2 ∧ m2 = 2 * m := by have := hb.out; have := hm2.out; omega
              have wam : IntKind.i64.wrap ((a : Int) + (m : Int)) = (am : Int) := by rw [IntKind.wrap_i64]; omega
              have hc := hM.out n a am b dj wr (by omega) (by rw [hn0.out, hdj.out]) S5.out hd.1 hd.2.1 (by rw [hdj.out]; exact hbl) (by rw [hdj.out]; omega)
              rw [hdj.out] at hc
              have hz5 : Hid ((symM (ltOf cf) n dj a am b).size = n) := hide ((symM_size _ _ _ _ _ _).trans hdj.out)
              obtain ⟨bn, hbn⟩ : ∃ bn, b + m2 = bn := ⟨_, rfl⟩
              have wbn : IntKind.i64.wrap ((b : Int) + (m2 : Int)) = (bn : Int) := by have := hb2.out; rw [IntKind.wrap_i64]; omega
              have hB6 := hide (hgo.symm.trans hB5.out)
              have hk5 : Hid (n - b ≤ f2) := hide (by have := hky.out; have := hb2.out; omega)
              have hbn' : Hid (bn = b + m2 ∧ b ≤ n) := hide ⟨hbn.symm, hbl⟩
              clear hgo hB5 hky S5 hd ham hbn hb hlt hbl
              go_wp2_with fail
              refine hc.mono ?_
              clear hc
              rintro e w6 ⟨rfl, S6⟩
              go_wp2_with fail
              go_roundg f2
              case measure => omega
              case rel => exact ⟨b, bn, _, rfl, rfl, hbn', hk5, hz5, S6, hB6⟩
            · have hbli : ¬ (b : Int) ≤ (n : Int) := by omega
              have he := (mrgB_end (lt := ltOf cf) (k := m) (f := gk) (d := dj) (show ¬ a + 2 * m ≤ n by have := hb.out; have := hm2.out; omega) hky.out).symm.trans hB5.out
              obtain ⟨am, ham⟩ : ∃ am, a + m = am := ⟨_, rfl⟩
              rw [ham] at he
              have han := hb.out.2
              have wam : IntKind.i64.wrap ((a : Int) + (m : Int)) = (am : Int) := by rw [IntKind.wrap_i64]; omega
              have hba : b = a + m2 := hb.out.1
              replace hba := hide hba
              by_cases hmn : am < n
              · have hmni : (am : Int) < (n : Int) := by omega
                rw [if_pos hmn] at he
                have hc := hM.out n a am n dj wr (by omega) (by rw [hn0.out, hdj.out]) S5.out (by omega) hmn (by rw [hdj.out]; exact Nat.le_refl _) (by rw [hdj.out]; omega)
                rw [hdj.out, he] at hc
                have hz5 : Hid (D2.size = n) := hide (by rw [← he]; exact (symM_size _ _ _ _ _ _).trans hdj.out)
                clear he hB5 hky S5 hb ham hlt hbl
                go_wp2_with fail
                refine hc.mono ?_
                clear hc
                rintro e w6 ⟨rfl, S6⟩
                go_wp2_with fail
                go_roundg f'
                case measure => omega
                case rel => exact ⟨m2, D2, rfl, hb2.out.2, hk2, hide hb2.out.1, hz5, S6, hB2⟩
              · have hmni : ¬ (am : Int) < (n : Int) := by omega
                rw [if_neg hmn] at he
                subst he
                clear hB5 hky hb ham hlt hbl
                go_wp2_with fail
                go_roundg f'
                case measure => omega
                case rel => exact ⟨m2, _, rfl, hb2.out.2, hk2, hide hb2.out.1, hdj, S5, hB2⟩
        · have hlti : ¬ (m : Int) < (n : Int) := by omega
          have he := hide ((stabB_end (lt := ltOf cf) (n := n) (f := gk) (d := dk) hlt).symm.trans hB.out)
          clear hB hkx
          go_wp2_with fail
          go_end0
          exact ⟨rfl, by rw [← he.out]; exact S4.out⟩
end
end Go.Proofs.YthejgholpkeldaaGreatDoor
