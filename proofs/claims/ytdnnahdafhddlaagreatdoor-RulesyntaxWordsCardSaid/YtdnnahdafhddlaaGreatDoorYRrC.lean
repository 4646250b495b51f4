/- Walks of rulesyntax.number and of the parser's number. Conditions: the parser's cells are as PsAt says. Selections in memory: a tree told as a kind of data. No condition. Walks of the reference's take, name and number. Conditions: the reader's cells are as RdyAt or RBad say. -/
import Derived.Test.YtdnnahdafhddlaaGreatDoorYRrB
import Derived.Test.YtdnnahdafhddlaaGreatDoorYDigT
namespace Go.Proofs.YtdnnahdafhddlaaGreatDoor
open Go.RowKit
set_option maxRecDepth 100000

set_option maxHeartbeats 1000000 in
theorem snumber_walk (s : ByteArray) (w : World) (hs : s.size ≤ 9223372036854775807) :
    Calls Tryz.prog 180 #[.string s] w fun e w' => e = .returned (digV (numZ 4 s)) ∧ Below w.heap.size w w' := by
  have hnone : numZ 4 s = none → digV (numZ 4 s) = .tuple #[.int .i64 0, .bool false] := fun h => by rw [h]; rfl
  by_cases h0 : 1 ≤ s.size
  · by_cases h1 : s.size ≤ 4
    · have hzs := zeroS_of (s := s) (by omega)
      obtain ⟨n, hn⟩ : ∃ n, s[0].toNat = n := ⟨_, rfl⟩
      rw [hn] at hzs
      by_cases h2 : 1 < s.size
      · by_cases h3 : n = 48
        · have hz : 1 < s.size ∧ zeroS s = true := ⟨h2, by rw [hzs]; exact decide_eq_true h3⟩
          rw [hnone (if_pos hz)]
          subst h3
          clear hz hzs hnone
          go_enter Tryz.func180, Tryz.ntmps180
          go_wp2
          all_goals try (exfalso; omega)
          all_goals
            go_ret2
            exact ⟨rfl, Below.refl _ _⟩
        · have hz : ¬ (1 < s.size ∧ zeroS s = true) := fun h => by rw [hzs] at h; exact h3 (of_decide_eq_true h.2)
          have q48 : ((n : Int) == 48) = false := by rw [beq_eq_false_iff_ne]; omega
          clear hzs hnone
          (
                have ht := trim_walk s
                cases hd : digS s with
                | true =>
                  rw [show numZ 4 s = some (valS s) from (if_neg hz).trans (if_pos ⟨h0, h1, hd⟩)]
                  have hat := hide (dig_atoi hd (by omega))
                  rw [(trim_all s).2 hd] at ht
                  obtain ⟨v, hv⟩ : ∃ v, valS s = v := ⟨_, rfl⟩
                  rw [hv] at hat
                  show Calls Tryz.prog 180 #[.string s] w fun e w' => e = .returned (.tuple #[.int .i64 (valS s : Int), .bool true]) ∧ Below w.heap.size w w'
                  rw [hv]
                  clear hd hv hz
                  go_enter Tryz.func180, Tryz.ntmps180
                  go_wp2_with fail
                  all_goals try (exfalso; omega)
                  go_at_call 52
                  refine (ht _ hs).mono ?_
                  rintro e w1 ⟨rfl, b1⟩
                  clear ht
                  go_wp2_with (go_at_call 204; refine (Tryz.strconv_Atoi s v (by omega) hat.out _).mono ?_; rintro e w' ⟨rfl, t, rfl⟩)
                  go_quiet (fail)
                  go_wp2
                  go_ret2
                  exact ⟨rfl, ext_trans b1 (below_drewN (Joins.below_bytesWorld _ _ _ _ (Nat.le_refl _)) _)⟩
                | false =>
                  rw [show numZ 4 s = none from (if_neg hz).trans (if_neg (fun ⟨_, _, hh⟩ => by rw [hd] at hh; cases hh))]
                  have hne : Lib.trimS s.data.toList cutDigits.data.toList ≠ [] := fun h => by rw [(trim_all s).1 h] at hd; cases hd
                  obtain ⟨z, hz'⟩ : ∃ z : ByteArray, (⟨(Lib.trimS s.data.toList cutDigits.data.toList).toArray⟩ : ByteArray) = z := ⟨_, rfl⟩
                  rw [hz'] at ht
                  have hzn : 0 < z.size := by
                    rw [← hz']; show 0 < (Lib.trimS s.data.toList cutDigits.data.toList).toArray.size; rw [List.size_toArray]; exact List.length_pos_iff.2 hne
                  have hze := isEmpty_false z (by omega)
                  clear hd hz' hne hz
                  show Calls Tryz.prog 180 #[.string s] w fun e w' => e = .returned (.tuple #[.int .i64 0, .bool false]) ∧ Below w.heap.size w w'
                  go_enter Tryz.func180, Tryz.ntmps180
                  go_wp2_with fail
                  all_goals try (exfalso; omega)
                  go_at_call 52
                  refine (ht _ hs).mono ?_
                  rintro e w1 ⟨rfl, b1⟩
                  clear ht
                  go_wp2
                  all_goals
                    go_ret2
                    exact ⟨rfl, b1⟩)
      · have hz : ¬ (1 < s.size ∧ zeroS s = true) := fun h => h2 h.1
        clear hzs hnone
        (
              have ht := trim_walk s
              cases hd : digS s with
              | true =>
                rw [show numZ 4 s = some (valS s) from (if_neg hz).trans (if_pos ⟨h0, h1, hd⟩)]
                have hat := hide (dig_atoi hd (by omega))
                rw [(trim_all s).2 hd] at ht
                obtain ⟨v, hv⟩ : ∃ v, valS s = v := ⟨_, rfl⟩
                rw [hv] at hat
                show Calls Tryz.prog 180 #[.string s] w fun e w' => e = .returned (.tuple #[.int .i64 (valS s : Int), .bool true]) ∧ Below w.heap.size w w'
                rw [hv]
                clear hd hv hz
                go_enter Tryz.func180, Tryz.ntmps180
                go_wp2_with fail
                all_goals try (exfalso; omega)
                go_at_call 52
                refine (ht _ hs).mono ?_
                rintro e w1 ⟨rfl, b1⟩
                clear ht
                go_wp2_with (go_at_call 204; refine (Tryz.strconv_Atoi s v (by omega) hat.out _).mono ?_; rintro e w' ⟨rfl, t, rfl⟩)
                go_quiet (fail)
                go_wp2
                go_ret2
                exact ⟨rfl, ext_trans b1 (below_drewN (Joins.below_bytesWorld _ _ _ _ (Nat.le_refl _)) _)⟩
              | false =>
                rw [show numZ 4 s = none from (if_neg hz).trans (if_neg (fun ⟨_, _, hh⟩ => by rw [hd] at hh; cases hh))]
                have hne : Lib.trimS s.data.toList cutDigits.data.toList ≠ [] := fun h => by rw [(trim_all s).1 h] at hd; cases hd
                obtain ⟨z, hz'⟩ : ∃ z : ByteArray, (⟨(Lib.trimS s.data.toList cutDigits.data.toList).toArray⟩ : ByteArray) = z := ⟨_, rfl⟩
                rw [hz'] at ht
                have hzn : 0 < z.size := by
                  rw [← hz']; show 0 < (Lib.trimS s.data.toList cutDigits.data.toList).toArray.size; rw [List.size_toArray]; exact List.length_pos_iff.2 hne
                have hze := isEmpty_false z (by omega)
                clear hd hz' hne hz
                show Calls Tryz.prog 180 #[.string s] w fun e w' => e = .returned (.tuple #[.int .i64 0, .bool false]) ∧ Below w.heap.size w w'
                go_enter Tryz.func180, Tryz.ntmps180
                go_wp2_with fail
                all_goals try (exfalso; omega)
                go_at_call 52
                refine (ht _ hs).mono ?_
                rintro e w1 ⟨rfl, b1⟩
                clear ht
                go_wp2
                all_goals
                  go_ret2
                  exact ⟨rfl, b1⟩)
    · rw [hnone (by unfold numZ numE; rw [if_neg (fun h : 1 ≤ s.size ∧ s.size ≤ 4 ∧ digS s = true => h1 h.2.1)]; split <;> rfl)]
      clear hnone
      go_enter Tryz.func180, Tryz.ntmps180
      go_wp2
      all_goals try (exfalso; omega)
      all_goals
        go_ret2
        exact ⟨rfl, Below.refl _ _⟩
  · rw [hnone (by unfold numZ numE; rw [if_neg (fun h : 1 ≤ s.size ∧ s.size ≤ 4 ∧ digS s = true => h0 h.1)]; split <;> rfl)]
    clear hnone
    go_enter Tryz.func180, Tryz.ntmps180
    go_wp2
    all_goals try (exfalso; omega)
    all_goals
      go_ret2
      exact ⟨rfl, Below.refl _ _⟩
/-- The words of the selections by a name, of the kinds of rules. -/
def selWs : List ByteArray := [⟨#[99, 108, 97, 115, 115]⟩, ⟨#[99, 111, 117, 114, 115, 101]⟩, ⟨#[112, 97, 114, 116]⟩, ⟨#[99, 117, 114, 114, 105, 99, 117, 108, 117, 109]⟩, ⟨#[115, 116, 97, 102, 102]⟩, ⟨#[102, 101, 97, 116, 117, 114, 101]⟩]
def kindWs : List ByteArray := [⟨#[97, 112, 97, 114, 116]⟩, ⟨#[115, 97, 109, 101, 100, 97, 121]⟩, ⟨#[111, 116, 104, 101, 114, 100, 97, 121]⟩, ⟨#[115, 97, 109, 101, 114, 111, 111, 109]⟩, ⟨#[115, 97, 109, 101, 115, 116, 97, 114, 116]⟩, ⟨#[98, 101, 102, 111, 114, 101]⟩, ⟨#[109, 111, 115, 116]⟩, ⟨#[103, 97, 112]⟩, ⟨#[115, 112, 97, 110]⟩, ⟨#[97, 118, 111, 105, 100]⟩, ⟨#[114, 111, 111, 109, 115]⟩, ⟨#[116, 114, 97, 118, 101, 108]⟩]
def trimB (z : ByteArray) : ByteArray := ⟨(Lib.trimS z.data.toList [32]).toArray⟩
def bracketL (s : ByteArray) : List ByteArray := (Lib.splitB ⟨#[59]⟩ 0 (Lib.countB s ⟨#[59]⟩) s).map trimB
def gramT : Gram := ⟨codeB, selWs, kindWs, numZ 4, bracketL⟩
set_option maxHeartbeats 4000000 in
theorem pnumber_walk (g : Nat) (t : ByteArray) (e a : Nat) (w : World) (h : PsAt w g t e a) (ha : a ≤ t.size) (hs : t.size < 1073741824) :
    Calls Tryz.prog 136 #[.pointer (some ⟨g, 0, none⟩)] w fun en w' => RdG g t e vNat (digP gramT t e a) w en w' := by
  have hgl := blk_lt h
  have hnx := pnext_walk g t e a w h ha hs
  go_enter Tryz.func136, Tryz.ntmps136
  go_wp2_with fail
  refine hnx.mono ?_
  rintro en w1 ⟨ho1, hm⟩
  cases hl : lookT t e a with
  | bad b =>
    rw [hl] at hm
    obtain rfl := hm
    go_wp2
    exact ⟨rfl, RdG.err (by unfold digP nextP; rw [hl]) ho1⟩
  | tok x p =>
    rw [hl] at hm
    obtain ⟨rfl, h1⟩ := hm
    have hin := look_in ha hl
    obtain ⟨w2, hw2⟩ : ∃ w2, w1.alloc (.cells #[.string x, .int .i64 (p : Int)] 166) = w2 := ⟨_, rfl⟩
    obtain ⟨q, hq⟩ : ∃ q, w1.heap.size = q := ⟨_, rfl⟩
    have hb2 : Below w1.heap.size w1 w2 := by rw [← hw2]; exact ext_alloc (Below.refl _ _) _
    have h2 := h1.later hb2
    have ho2 := Only.later ho1 hb2
    have ht2 : w2.heap[q]? = some (.cells #[.string x, .int .i64 (p : Int)] 166 (0, 0)) := by rw [← hw2, ← hq]; exact heap_alloc_new _ _
    obtain ⟨d0, d1, -⟩ := tok_cells ht2
    clear h1 ho1 hb2 ht2
    have hcv0 := fun W => snumber_walk x W (by omega)
    cases hx : numZ 4 x with
    | some n =>
      rw [hx] at hcv0
      have hcv : ∀ W : World, Calls Tryz.prog 180 #[.string x] W fun e w' => e = .returned (.tuple #[.int .i64 (n : Int), .bool true]) ∧ Below W.heap.size W w' := hcv0
      clear hcv0
      have hr : digP gramT t e a = .ok (n, startT t a + x.size) := by
        unfold digP nextP
        rw [hl]
        show (match gramT.num x with | some n => _ | none => _) = _
        rw [show gramT.num x = some n from hx]
      go_wp2_with (go_at_call 180; refine (hcv _).mono ?_; rintro e w3 ⟨rfl, hb3⟩)
      go_ret
      exact RdG.ok hr (Only.later ho2 hb3) (h2.later hb3) hin rfl
    | none =>
      rw [hx] at hcv0
      have hcv : ∀ W : World, Calls Tryz.prog 180 #[.string x] W fun e w' => e = .returned (.tuple #[.int .i64 0, .bool false]) ∧ Below W.heap.size W w' := hcv0
      clear hcv0
      have hr : digP gramT t e a = .error (p, 15) := by
        unfold digP nextP
        rw [hl]
        show (match gramT.num x with | some n => _ | none => _) = _
        rw [show gramT.num x = none from hx]
      go_wp2_with fail
      refine (hcv _).mono ?_
      rintro e w3 ⟨rfl, hb3⟩
      have d1' := cell_later hb3 d1
      clear hcv
      go_wp2_with (go_at_call 137; refine (sfail_walk _ _ _ _).mono ?_; rintro e w' ⟨rfl, rfl⟩)
      exact ⟨rfl, RdG.err hr (Only.later ho2 hb3)⟩
end Go.Proofs.YtdnnahdafhddlaaGreatDoor

namespace Go.Proofs.YtdnnahdafhddlaaGreatDoor
open Go.RowKit
set_option maxRecDepth 100000

/-- What three cells say of a selection, with all that its parts' row holds. -/
inductive SelRep (S : Nat → Prop) (w : World) : Sel → List Value → Prop where
  | mk (kind : Int) (name : ByteArray) (kids : List Sel) (A : Option Addr) (c b off : Nat) (vss : Nat → List Value)
      (hc : kids.length ≤ c)
      (hA : 0 < kids.length → A = some ⟨b, off, none⟩ ∧ S b ∧ b < w.heap.size)
      (hk : ∀ (j : Nat) (x : Sel), kids[j]? = some x → SelRep S w x (vss j))
      (hv : ∀ (j : Nat) (x : Sel), kids[j]? = some x → ∀ (i : Nat) (u : Value), (vss j)[i]? = some u → w.cell? ⟨b, off + j * 3 + i, none⟩ = some u) :
      SelRep S w (.mk kind name kids) [.int .i64 kind, .string name, .slice A kids.length c]
theorem SelRep.kept {S S' : Nat → Prop} {w w' : World} {a : Sel} {vs : List Value} (h : SelRep S w a vs) (hb : ∀ b, S b → b < w.heap.size → S' b ∧ b < w'.heap.size ∧ w'.heap[b]? = w.heap[b]?) : SelRep S' w' a vs := by
  induction h with
  | mk kind name kids A c b off vss hc hA hk hv ih =>
    refine .mk kind name kids A c b off vss hc (fun hn => ?_) ih fun j x hx i u hu => ?_
    · obtain ⟨e, h1, h2⟩ := hA hn
      obtain ⟨h3, h4, -⟩ := hb b h1 h2
      exact ⟨e, h3, h4⟩
    · have hn : 0 < kids.length := by have := (List.getElem?_eq_some_iff.1 hx).1; omega
      obtain ⟨-, h1, h2⟩ := hA hn
      obtain ⟨-, -, h5⟩ := hb b h1 h2
      exact (World.cell?_of_block (a := ⟨b, off + j * 3 + i, none⟩) h5).trans (hv j x hx i u hu)
theorem SelRep.form {S : Nat → Prop} {w : World} {a : Sel} {vs : List Value} (h : SelRep S w a vs) : ∃ k n A l c, vs = [.int .i64 k, .string n, .slice A l c] := by
  cases h; exact ⟨_, _, _, _, _, rfl⟩
def kSel : Kind Sel where
  k := 3
  rep := SelRep
  kept := fun h hb => h.kept hb
  len := fun h => by obtain ⟨_, _, _, _, _, rfl⟩ := h.form; rfl
  one := fun h u hu => by
    obtain ⟨_, _, _, _, _, rfl⟩ := h.form
    simp at hu
    rcases hu with rfl | rfl | rfl <;> rfl
theorem rep_sel {S : Nat → Prop} {w : World} {k : Int} {n : ByteArray} {kids : List Sel} {vs : List Value} : kSel.rep S w (.mk k n kids) vs ↔ ∃ A c, vs = [.int .i64 k, .string n, .slice A kids.length c] ∧ kids.length ≤ c ∧ At kSel S w A kids := by
  constructor
  · intro h
    change SelRep S w _ vs at h
    cases h with
    | mk _ _ _ A c b off vss hc hA hk hv =>
      refine ⟨A, c, rfl, hc, fun hn => ?_⟩
      obtain ⟨e, h1, h2⟩ := hA hn
      exact ⟨b, off, e, h1, h2, fun j x hx => ⟨vss j, hk j x hx, hv j x hx⟩⟩
  · rintro ⟨A, c, rfl, hc, hA⟩
    show SelRep S w _ _
    by_cases hn : 0 < kids.length
    · obtain ⟨b, off, e, h1, h2, h3⟩ := hA hn
      have h3 : ∀ j, ∃ vs, ∀ x, kids[j]? = some x → kSel.rep S w x vs ∧ ∀ i u, vs[i]? = some u → w.cell? ⟨b, off + j * 3 + i, none⟩ = some u := by
        intro j
        cases hx : kids[j]? with
        | none => exact ⟨[], fun x e => by cases e⟩
        | some x =>
          obtain ⟨vs, q1, q2⟩ := h3 j x hx
          exact ⟨vs, fun y e => by injection e with e; subst e; exact ⟨q1, q2⟩⟩
      obtain ⟨vss, hvss⟩ := Classical.axiomOfChoice h3
      exact .mk k n kids A c b off vss hc (fun _ => ⟨e, h1, h2⟩) (fun j x hx => (hvss j x hx).1) (fun j x hx => (hvss j x hx).2)
    · exact .mk k n kids A c 0 0 (fun _ => []) hc (fun h => absurd h hn) (fun j x hx => by have := (List.getElem?_eq_some_iff.1 hx).1; omega) (fun j x hx => by have := (List.getElem?_eq_some_iff.1 hx).1; omega)
end Go.Proofs.YtdnnahdafhddlaaGreatDoor

namespace Go.Proofs.YtdnnahdafhddlaaGreatDoor
open Go.RowKit
set_option maxRecDepth 100000

/-- What a reader of the reference does: the first error is noted, and something is returned; else it stands behind what was read. -/
def RmG {α : Type} (g : Nat) (t : ByteArray) (e : Nat) (val : World → World → α → Value → Prop) (z : Res α) (w : World) (en : Ending) (w' : World) : Prop :=
  Only g w w' ∧ match z with
    | .error y => RBad w' g t e y ∧ ∃ x v, val w w' x v ∧ en = .returned v
    | .ok (x, b) => RdyAt w' g t e b ∧ b ≤ t.size ∧ ∃ v, val w w' x v ∧ en = .returned v
theorem RmG.err {α : Type} {g : Nat} {t : ByteArray} {e : Nat} {val : World → World → α → Value → Prop} {z : Res α} {w w' : World} {y : Nat × Int} {x : α} {v : Value} (hz : z = .error y) (ho : Only g w w') (hb : RBad w' g t e y) (hv : val w w' x v) : RmG g t e val z w (.returned v) w' := ⟨ho, by rw [hz]; exact ⟨hb, x, v, hv, rfl⟩⟩
theorem RmG.ok {α : Type} {g : Nat} {t : ByteArray} {e : Nat} {val : World → World → α → Value → Prop} {z : Res α} {w w' : World} {x : α} {b : Nat} {v : Value} (hz : z = .ok (x, b)) (ho : Only g w w') (h : RdyAt w' g t e b) (hb : b ≤ t.size) (hv : val w w' x v) : RmG g t e val z w (.returned v) w' := ⟨ho, by rw [hz]; exact ⟨h, hb, v, hv, rfl⟩⟩
theorem nextP_bad {t : ByteArray} {e a b : Nat} (hl : lookT t e a = .bad b) : nextP t e a = .error (b, 5) := by unfold nextP; rw [hl]
theorem nextP_tok {t x : ByteArray} {e a p : Nat} (hl : lookT t e a = .tok x p) : nextP t e a = .ok ((x, p), startT t a + x.size) := by unfold nextP; rw [hl]
theorem rdy_is_bad {w : World} {g : Nat} {t : ByteArray} {e a b : Nat} (hl : lookT t e a = .bad b) (h : RdyAt w g t e a) : RBad w g t e (b, 5) := by unfold RdyAt at h; rw [hl] at h; exact h
theorem rdy_is_tok {w : World} {g : Nat} {t x : ByteArray} {e a p : Nat} (hl : lookT t e a = .tok x p) (h : RdyAt w g t e a) : Rr w g t e (startT t a + x.size) x p 0 0 ∧ startT t a + x.size ≤ t.size ∧ x.size ≤ t.size ∧ p ≤ t.size + e := by unfold RdyAt at h; rw [hl] at h; exact h
section
variable {w w' : World} {g e a : Nat} {t : ByteArray} {y : Nat × Int}
theorem RBad.later (h : RBad w g t e y) (hb : Below w.heap.size w w') : RBad w' g t e y := by obtain ⟨p, x, f, h1, h2⟩ := h; exact ⟨p, x, f, h1.later hb, h2⟩
theorem RBad.grown {row : Option Nat} (h : RBad w g t e y) (hg : w.grownBy w' row) (hr : ∀ z, row = some z → g < z) : RBad w' g t e y := by obtain ⟨p, x, f, h1, h2⟩ := h; exact ⟨p, x, f, h1.grown hg hr, h2⟩
theorem RdyAt.later (h : RdyAt w g t e a) (hb : Below w.heap.size w w') : RdyAt w' g t e a := by
  cases hl : lookT t e a with
  | bad b => exact rdy_bad hl ((rdy_is_bad hl h).later hb)
  | tok x p => obtain ⟨h1, h2, h3, h4⟩ := rdy_is_tok hl h; exact rdy_tok hl rfl (h1.later hb) h2 h4
theorem RdyAt.grown {row : Option Nat} (h : RdyAt w g t e a) (hg : w.grownBy w' row) (hr : ∀ z, row = some z → g < z) : RdyAt w' g t e a := by
  cases hl : lookT t e a with
  | bad b => exact rdy_bad hl ((rdy_is_bad hl h).grown hg hr)
  | tok x p => obtain ⟨h1, h2, h3, h4⟩ := rdy_is_tok hl h; exact rdy_tok hl rfl (h1.grown hg hr) h2 h4
theorem RBad.lt (h : RBad w g t e y) : g < w.heap.size := by obtain ⟨p, x, f, h1, -⟩ := h; exact blk_lt h1
theorem RdyAt.lt (h : RdyAt w g t e a) : g < w.heap.size := by
  cases hl : lookT t e a with
  | bad b => exact (rdy_is_bad hl h).lt
  | tok x p => exact blk_lt (rdy_is_tok hl h).1
end
set_option maxHeartbeats 2000000 in
theorem rtake_bad (g : Nat) (t : ByteArray) (e : Nat) (y : Nat × Int) (k : ByteArray) (w : World) (h : RBad w g t e y) :
    Calls Tryz.prog 150 #[.pointer (some ⟨g, 0, none⟩), .string k] w fun en w' => en = .returned (.tuple #[]) ∧ Only g w w' ∧ RBad w' g t e y := by
  obtain ⟨p, x, f, hr, h0, h1⟩ := id h
  have hg := rgood_walk g t e p x f _ _ w hr
  rw [show (y.2 == 0) = false from by rw [beq_eq_false_iff_ne]; exact h0] at hg
  clear h0 h1 hr
  replace h := hide h
  go_enter Tryz.func150, Tryz.ntmps150
  go_wp2_with (go_at_call 100; refine hg.mono ?_; rintro en w' ⟨rfl, rfl⟩)
  go_end0
  exact ⟨rfl, Only.refl _ _, h.out⟩
set_option maxHeartbeats 2000000 in
theorem rtake_walk (g : Nat) (t : ByteArray) (e : Nat) (k : ByteArray) (a : Nat) (w : World) (h : RdyAt w g t e a) (hs : t.size + e < 1073741824) :
    Calls Tryz.prog 150 #[.pointer (some ⟨g, 0, none⟩), .string k] w fun en w' => RmG g t e vUnit (needP t e k a) w en w' := by
  cases hl : lookT t e a with
  | bad b => exact (rtake_bad g t e (b, 5) k w (rdy_is_bad hl h)).mono fun en w' ⟨he, ho, hb⟩ => by rw [he]; exact RmG.err (x := ()) (by unfold needP; rw [nextP_bad hl]) ho hb rfl
  | tok x p =>
    obtain ⟨hr, h1, h2, h3⟩ := rdy_is_tok hl h
    have hg := rgood_walk g t e _ x p _ _ w hr
    rw [show ((0 : Int) == 0) = true from rfl] at hg
    obtain ⟨b, hb⟩ : ∃ b, startT t a + x.size = b := ⟨_, rfl⟩
    have hn := nextP_tok hl
    rw [hb] at hr h1 hn
    obtain ⟨c0, c1, c2, c3, c4, c8, hf, hgl⟩ := rr_cells hr
    clear hf
    by_cases hx : x = k
    · have hz : needP t e k a = .ok ((), b) := by unfold needP; rw [hn]; exact if_pos hx
      have hnx := rnext_walk g t e b x p w hr h1 hs
      have hxk : (x.toList == k.toList) = true := by rw [toList_inj]; exact decide_eq_true hx
      replace hx := hide hx
      clear h hr h2 h3 hn hb hl
      replace hz := hide hz
      go_enter Tryz.func150, Tryz.ntmps150
      go_wp2_with (go_at_call 100; refine hg.mono ?_; rintro en w' ⟨rfl, rfl⟩)
      refine hnx.mono ?_
      rintro en w1 ⟨rfl, ho, h4⟩
      go_wp2
      go_end0
      exact RmG.ok hz.out ho h4 h1 rfl
    · have hz : needP t e k a = .error (p, 15) := by unfold needP; rw [hn]; exact if_neg hx
      have hxk : (x.toList == k.toList) = false := by rw [toList_inj]; exact decide_eq_false hx
      have hsy := rsyntax_walk g t e b x p w hr h3 (by omega) h1 h2
      replace hx := hide hx
      clear h hr h2 h3 hn hb hl
      replace hz := hide hz
      go_enter Tryz.func150, Tryz.ntmps150
      go_wp2_with (go_at_call 100; refine hg.mono ?_; rintro en w' ⟨rfl, rfl⟩)
      refine hsy.mono ?_
      rintro en w1 ⟨rfl, ho, h4⟩
      obtain ⟨p1, x1, f1, hr1, q1, -⟩ := id h4
      have hg1 := rgood_walk g t e p1 x1 f1 _ _ w1 hr1
      rw [show (((p, (15 : Int)) : Nat × Int).2 == 0) = false from rfl] at hg1
      replace h4 := hide h4
      clear hr1 q1 hsy hg c0 c1 c2 c3 c4 c8
      go_wp2_with (go_at_call 100; refine hg1.mono ?_; rintro en w' ⟨rfl, rfl⟩)
      go_end0
      exact RmG.err (x := ()) hz.out ho h4.out rfl
set_option maxHeartbeats 2000000 in
theorem rname_bad (g : Nat) (t : ByteArray) (e : Nat) (y : Nat × Int) (w : World) (h : RBad w g t e y) :
    Calls Tryz.prog 149 #[.pointer (some ⟨g, 0, none⟩)] w fun en w' => (∃ x, en = .returned (.string x)) ∧ Only g w w' ∧ RBad w' g t e y := by
  obtain ⟨p, x, f, hr, h0, h1⟩ := id h
  have hg := rgood_walk g t e p x f _ _ w hr
  rw [show (y.2 == 0) = false from by rw [beq_eq_false_iff_ne]; exact h0] at hg
  obtain ⟨c0, c1, c2, c3, c4, c8, hf, hgl⟩ := rr_cells hr
  clear h0 h1 hr hf c8 c0 c1 c2 c4
  replace h := hide h
  go_enter Tryz.func149, Tryz.ntmps149
  go_wp2_with (go_at_call 100; refine hg.mono ?_; rintro en w' ⟨rfl, rfl⟩)
  go_ret
  exact ⟨⟨_, rfl⟩, Only.refl _ _, h.out⟩
set_option maxHeartbeats 2000000 in
theorem rname_walk (g : Nat) (t : ByteArray) (e : Nat) (a : Nat) (w : World) (h : RdyAt w g t e a) (hs : t.size + e < 1073741824) :
    Calls Tryz.prog 149 #[.pointer (some ⟨g, 0, none⟩)] w fun en w' => RmG g t e vStr (identP codeB t e a) w en w' := by
  cases hl : lookT t e a with
  | bad b => exact (rname_bad g t e (b, 5) w (rdy_is_bad hl h)).mono fun en w' ⟨⟨x, he⟩, ho, hb⟩ => by rw [he]; exact RmG.err (x := x) (by unfold identP; rw [nextP_bad hl]) ho hb rfl
  | tok x p =>
    obtain ⟨hr, h1, h2, h3⟩ := rdy_is_tok hl h
    have hg := rgood_walk g t e _ x p _ _ w hr
    rw [show ((0 : Int) == 0) = true from rfl] at hg
    obtain ⟨b, hb⟩ : ∃ b, startT t a + x.size = b := ⟨_, rfl⟩
    have hn := nextP_tok hl
    rw [hb] at hr h1 hn
    obtain ⟨c0, c1, c2, c3, c4, c8, hf, hgl⟩ := rr_cells hr
    have hv := r3valid_walk x
    clear hf
    cases hx : codeB x with
    | true =>
      rw [hx] at hv
      have hz : identP codeB t e a = .ok (x, b) := by unfold identP; rw [hn]; exact if_pos hx
      have hnx := rnext_walk g t e b x p w hr h1 hs
      clear h hr h2 h3 hn hb hl hx
      replace hz := hide hz
      go_enter Tryz.func149, Tryz.ntmps149
      go_wp2_with (first | (go_at_call 100; refine hg.mono ?_; rintro en w' ⟨rfl, rfl⟩) | (go_at_call 36; refine (hv _).mono ?_; rintro en w' ⟨rfl, rfl⟩))
      refine hnx.mono ?_
      rintro en w1 ⟨rfl, ho, h4⟩
      go_wp2
      go_ret
      exact RmG.ok hz.out ho h4 h1 rfl
    | false =>
      rw [hx] at hv
      have hz : identP codeB t e a = .error (p, 15) := by unfold identP; rw [hn]; exact if_neg (by rw [hx]; decide)
      have hsy := rsyntax_walk g t e b x p w hr h3 (by omega) h1 h2
      clear h hr h2 h3 hn hb hl hx
      replace hz := hide hz
      go_enter Tryz.func149, Tryz.ntmps149
      go_wp2_with (first | (go_at_call 100; refine hg.mono ?_; rintro en w' ⟨rfl, rfl⟩) | (go_at_call 36; refine (hv _).mono ?_; rintro en w' ⟨rfl, rfl⟩))
      refine hsy.mono ?_
      rintro en w1 ⟨rfl, ho, h4⟩
      obtain ⟨p1, x1, f1, hr1, q1, -⟩ := id h4
      have hg1 := rgood_walk g t e p1 x1 f1 _ _ w1 hr1
      rw [show (((p, (15 : Int)) : Nat × Int).2 == 0) = false from rfl] at hg1
      replace h4 := hide h4
      clear hr1 q1 hsy hg c0 c1 c2 c3 c4 c8
      go_wp2_with (go_at_call 100; refine hg1.mono ?_; rintro en w' ⟨rfl, rfl⟩)
      go_ret
      exact RmG.err (x := x) hz.out ho h4.out rfl
/-- A number, 0 only where it is allowed. -/
def numbZ (zero : Bool) (t : ByteArray) (e a : Nat) : Res Nat :=
  match nextP t e a with
  | .error y => .error y
  | .ok ((x, p), b) => match numZ 4 x with
    | none => .error (p, 15)
    | some n => if n = 0 ∧ zero = false then .error (p, 15) else .ok (n, b)
set_option maxHeartbeats 2000000 in
theorem rnumber_bad (g : Nat) (t : ByteArray) (e : Nat) (y : Nat × Int) (z : Bool) (w : World) (h : RBad w g t e y) :
    Calls Tryz.prog 151 #[.pointer (some ⟨g, 0, none⟩), .bool z] w fun en w' => (∃ n : Nat, en = .returned (.int .i64 n)) ∧ Only g w w' ∧ RBad w' g t e y := by
  obtain ⟨p, x, f, hr, h0, h1⟩ := id h
  have hg := rgood_walk g t e p x f _ _ w hr
  rw [show (y.2 == 0) = false from by rw [beq_eq_false_iff_ne]; exact h0] at hg
  obtain ⟨c0, c1, c2, c3, c4, c8, hf, hgl⟩ := rr_cells hr
  have hd := r3digitsT_walk x 4 (by decide) w
  obtain ⟨n, o, hno⟩ : ∃ (n : Nat) (o : Bool), digV (numZ 4 x) = .tuple #[.int .i64 n, .bool o] := by cases numZ 4 x <;> exact ⟨_, _, rfl⟩
  rw [hno] at hd
  clear h0 h1 hr hf c8 c0 c1 c2 c4 hno
  replace h := hide h
  go_enter Tryz.func151, Tryz.ntmps151
  go_wp2_with fail
  refine hd.mono ?_
  rintro en w1 ⟨rfl, rfl⟩
  go_wp2_with (go_at_call 100; refine hg.mono ?_; rintro en w' ⟨rfl, rfl⟩)
  go_ret
  exact ⟨⟨_, rfl⟩, Only.refl _ _, h.out⟩
set_option maxHeartbeats 4000000 in
theorem rnumber_walk (g : Nat) (t : ByteArray) (e : Nat) (a : Nat) (z : Bool) (w : World) (h : RdyAt w g t e a) (hs : t.size + e < 1073741824) :
    Calls Tryz.prog 151 #[.pointer (some ⟨g, 0, none⟩), .bool z] w fun en w' => RmG g t e vNat (numbZ z t e a) w en w' := by
  cases hl : lookT t e a with
  | bad b => exact (rnumber_bad g t e (b, 5) z w (rdy_is_bad hl h)).mono fun en w' ⟨⟨x, he⟩, ho, hb⟩ => by rw [he]; exact RmG.err (x := x) (by unfold numbZ; rw [nextP_bad hl]) ho hb rfl
  | tok x p =>
    obtain ⟨hr, h1, h2, h3⟩ := rdy_is_tok hl h
    have hg := rgood_walk g t e _ x p _ _ w hr
    rw [show ((0 : Int) == 0) = true from rfl] at hg
    obtain ⟨b, hb⟩ : ∃ b, startT t a + x.size = b := ⟨_, rfl⟩
    have hn := nextP_tok hl
    rw [hb] at hr h1 hn
    obtain ⟨c0, c1, c2, c3, c4, c8, hf, hgl⟩ := rr_cells hr
    have hd0 := r3digitsT_walk x 4 (by decide) w
    have hz0 : numbZ z t e a = (match numZ 4 x with | none => .error (p, 15) | some n => if n = 0 ∧ z = false then .error (p, 15) else .ok (n, b)) := by unfold numbZ; rw [hn]
    have hnx := rnext_walk g t e b x p w hr h1 hs
    have hsy := rsyntax_walk g t e b x p w hr h3 (by omega) h1 h2
    clear hf h hr h2 h3 hn hb hl
    cases hx : numZ 4 x with
    | none =>
      rw [hx] at hd0 hz0
      have hz : numbZ z t e a = .error (p, 15) := hz0
      have hd : Calls Tryz.prog 191 #[.string x, .int .i64 4, .bool true] w fun e w' => e = .returned (.tuple #[.int .i64 0, .bool false]) ∧ w = w' := hd0
      clear hd0 hz0 hx hnx
      replace hz := hide hz
      go_enter Tryz.func151, Tryz.ntmps151
      go_wp2_with fail
      refine hd.mono ?_
      rintro en w1 ⟨rfl, rfl⟩
      clear hd
      go_wp2_with (go_at_call 100; refine hg.mono ?_; rintro en w' ⟨rfl, rfl⟩)
      refine hsy.mono ?_
      rintro en w1 ⟨rfl, ho, h4⟩
      obtain ⟨p1, x1, f1, hr1, q1, -⟩ := id h4
      have hg1 := rgood_walk g t e p1 x1 f1 _ _ w1 hr1
      rw [show (((p, (15 : Int)) : Nat × Int).2 == 0) = false from rfl] at hg1
      replace h4 := hide h4
      clear hr1 q1 hsy hg c0 c1 c2 c3 c4 c8
      go_wp2_with (go_at_call 100; refine hg1.mono ?_; rintro en w' ⟨rfl, rfl⟩)
      go_ret
      exact RmG.err (x := 0) hz.out ho h4.out rfl
    | some n =>
      rw [hx] at hd0 hz0
      have hd : Calls Tryz.prog 191 #[.string x, .int .i64 4, .bool true] w fun e w' => e = .returned (.tuple #[.int .i64 n, .bool true]) ∧ w = w' := hd0
      replace hz0 : numbZ z t e a = if n = 0 ∧ z = false then .error (p, 15) else .ok (n, b) := hz0
      clear hd0 hx
      by_cases hq : n = 0 ∧ z = false
      · rw [if_pos hq] at hz0
        obtain ⟨rfl, rfl⟩ := hq
        replace hz0 := hide hz0
        clear hnx
        go_enter Tryz.func151, Tryz.ntmps151
        go_wp2_with fail
        refine hd.mono ?_
        rintro en w1 ⟨rfl, rfl⟩
        clear hd
        go_wp2_with (go_at_call 100; refine hg.mono ?_; rintro en w' ⟨rfl, rfl⟩)
        refine hsy.mono ?_
        rintro en w1 ⟨rfl, ho, h4⟩
        obtain ⟨p1, x1, f1, hr1, q1, -⟩ := id h4
        have hg1 := rgood_walk g t e p1 x1 f1 _ _ w1 hr1
        rw [show (((p, (15 : Int)) : Nat × Int).2 == 0) = false from rfl] at hg1
        replace h4 := hide h4
        clear hr1 q1 hsy hg c0 c1 c2 c3 c4 c8
        go_wp2_with (go_at_call 100; refine hg1.mono ?_; rintro en w' ⟨rfl, rfl⟩)
        go_ret
        exact RmG.err (x := 0) hz0.out ho h4.out rfl
      · rw [if_neg hq] at hz0
        replace hz0 := hide hz0
        clear hsy
        by_cases hn0 : n = 0
        · obtain rfl : z = true := by cases z with | true => rfl | false => exact absurd ⟨hn0, rfl⟩ hq
          subst hn0
          clear hq
          go_enter Tryz.func151, Tryz.ntmps151
          go_wp2_with fail
          refine hd.mono ?_
          rintro en w1 ⟨rfl, rfl⟩
          clear hd
          go_wp2_with (go_at_call 100; refine hg.mono ?_; rintro en w' ⟨rfl, rfl⟩)
          refine hnx.mono ?_
          rintro en w1 ⟨rfl, ho, h4⟩
          go_wp2
          go_ret
          exact RmG.ok hz0.out ho h4 h1 rfl
        · have hni : ((n : Int) == 0) = false := by rw [beq_eq_false_iff_ne]; omega
          replace hn0 := hide hn0
          clear hq
          go_enter Tryz.func151, Tryz.ntmps151
          go_wp2_with fail
          refine hd.mono ?_
          rintro en w1 ⟨rfl, rfl⟩
          clear hd
          go_wp2_with (go_at_call 100; refine hg.mono ?_; rintro en w' ⟨rfl, rfl⟩)
          refine hnx.mono ?_
          rintro en w1 ⟨rfl, ho, h4⟩
          go_wp2
          go_ret
          exact RmG.ok hz0.out ho h4 h1 rfl
end Go.Proofs.YtdnnahdafhddlaaGreatDoor
