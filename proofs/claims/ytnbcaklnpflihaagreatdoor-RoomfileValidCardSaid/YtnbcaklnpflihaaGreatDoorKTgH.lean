/- Walk of fields.Scanner.Times. Conditions: the scanner's cells are as Scan says; texts shorter than 2^30 bytes. Data in memory, told by kinds: what a row of cells says, with all that it points to. No condition. Walks of slices.IndexFunc, slices.ContainsFunc at lecturers and at times, and of stafffile.has, fields.Apart. No condition. Walk of the closure of stafffile.Lines: one lecturer is read. Conditions: the scanner's cells are as Scan says; texts shorter than 2^30 bytes. Walk of timegrid.Format. No condition. -/
import Derived.Test.YtnbcaklnpflihaaGreatDoorKCodeAny
import Derived.Test.YtnbcaklnpflihaaGreatDoorKWsF
import Derived.Test.YtnbcaklnpflihaaGreatDoorKTgD
import Derived.Test.YtnbcaklnpflihaaGreatDoorKTgC
import Derived.Test.YtnbcaklnpflihaaGreatDoorKDiceC
import Derived.RegionTactic
import Derived.BigRegion
import Derived.Deep.RegionHeld3
import Derived.Deep.DeepCutAuto
namespace Go.Proofs.YtnbcaklnpflihaaGreatDoor
open Go.RowKit
set_option maxRecDepth 100000

abbrev T4 := Int × Int × Int × Int
def encT (t : T4) : List Value := [.int .i64 t.1, .int .i64 t.2.1, .int .i64 t.2.2.1, .int .i64 t.2.2.2]
/-- Times, in memory of their own. -/
def TimesOwn (B : Nat) (w : World) (v : Value) (ts : List T4) : Prop := w.ownsRow B 50 4 v ts.length (ts.flatMap encT)
theorem infoTime : (Tryz.prog.info? 50).map (fun i => (i.zero, i.size, i.bytes)) = some (some (.agg #[.int .i64 0, .int .i64 0, .int .i64 0, .int .i64 0]), 4, 32) := by kernel_rfl
theorem owns_lower {w : World} {B C : Nat} {e : TypeId} {k n : Nat} {v : Value} {xs : List Value} (h : w.ownsRow B e k v n xs) (hc : C ≤ B) : w.ownsRow C e k v n xs := by
  refine ⟨h.1, ?_⟩
  rcases h.2 with h0 | ⟨g, cap, cur, e1, hb, r⟩
  · exact .inl h0
  · exact .inr ⟨g, cap, cur, e1, by omega, r⟩
theorem owns_later {w w' : World} {B : Nat} {e : TypeId} {k n : Nat} {v : Value} {xs : List Value} (h : w.ownsRow B e k v n xs) (hb : Below w.heap.size w w') : w'.ownsRow B e k v n xs :=
  h.kept (row := none) ⟨hb.os, hb.tape, hb.output, hb.size, fun k hk _ => hb.block k hk⟩ (by cases v.ownBlock <;> simp)
theorem owns_only {w w' : World} {B g : Nat} {e : TypeId} {k n : Nat} {v : Value} {xs : List Value} (h : w.ownsRow B e k v n xs) (hb : Only g w w') (hg : g < B) : w'.ownsRow B e k v n xs :=
  h.kept hb (by
    cases hv : v.ownBlock with
    | none => exact .inl rfl
    | some x =>
      refine .inr fun e => ?_
      injection e with e
      have := (h.lt x hv).1
      omega)
/-- What a piece of a list of times is read as. -/
def pieceT (d sl b m n : Int) (z : ByteArray) : Int × Int × Int × Int × Int := parseT d sl b m n (Lib.splitB ⟨#[32]⟩ 0 (Lib.countB z ⟨#[32]⟩) z)
def pieceV (d sl b m n : Int) (z : ByteArray) : T4 := ((pieceT d sl b m n z).1, (pieceT d sl b m n z).2.1, (pieceT d sl b m n z).2.2.1, (pieceT d sl b m n z).2.2.2.1)
def pieceE (d sl b m n : Int) (z : ByteArray) : Int := (pieceT d sl b m n z).2.2.2.2
/-- The first error of pieces, 0 if there is none. -/
def firstE (f : ByteArray → Int) : List ByteArray → Int
  | [] => 0
  | z :: r => if f z = 0 then firstE f r else f z
theorem firstE_snoc (f : ByteArray → Int) (z : ByteArray) : ∀ l, firstE f (l ++ [z]) = if firstE f l = 0 then f z else firstE f l
  | [] => by simp only [List.nil_append, firstE]; by_cases h : f z = 0 <;> simp [h]
  | x :: l => by
    simp only [List.cons_append, firstE]
    by_cases h : f x = 0
    · simp only [h, if_true]; exact firstE_snoc f z l
    · simp only [h, if_false]
def probOf (line col e : Int) : Option Prob := if e = 0 then none else some (line, col, e)
theorem noted_prob (line col a e : Int) : noted (probOf line col a) (decide (e ≠ 0)) (line, col, e) = probOf line col (if a = 0 then e else a) := by
  unfold probOf
  by_cases h : a = 0
  · by_cases h' : e = 0
    · simp [h, h', noted]
    · simp [h, h', noted]
  · simp [h, noted]
/-- The error of a list of times. -/
def timesE (d sl b m n : Int) (zs : List ByteArray) : Int := if firstE (pieceE d sl b m n) zs = 0 then (if 24 < zs.length then 2 else 0) else firstE (pieceE d sl b m n) zs
def TimesGives (w : World) (g : Nat) (line col : Int) (F : Option Addr) (q c k : Nat) (ts : List T4) (er : Int) (e : Ending) (w' : World) : Prop :=
  ∃ v, e = .returned v ∧ TimesOwn w.heap.size w' v ts ∧ Scan w' g line F q c k (probOf line col er) ∧ Only g w w'
theorem len_flatT (ts : List T4) : (ts.flatMap encT).length = ts.length * 4 := by
  induction ts with
  | nil => rfl
  | cons t r ih => simp [ih, encT]; omega
theorem flatT_snoc (ts : List T4) (t : T4) : (ts ++ [t]).flatMap encT = ts.flatMap encT ++ encT t := by simp
theorem Box4.only {w w' : World} {g b : Nat} {x0 x1 x2 x3 : Value} (h : Box4 w b x0 x1 x2 x3) (ho : Only g w w') (hne : b ≠ g) : Box4 w' b x0 x1 x2 x3 := by
  have hlt := h.lt
  exact ⟨(ho.cell hlt hne).trans h.c0, (ho.cell hlt hne).trans h.c1, (ho.cell hlt hne).trans h.c2, (ho.cell hlt hne).trans h.c3⟩

theorem partsOf_len (s : ByteArray) : (partsOf s).length ≤ s.size + 1 := by
  unfold partsOf
  split
  · simp
  · rw [splitB_len]
    have := Lib.countB_le ⟨#[59]⟩ (Nat.le_refl 1) _ s (Nat.le_refl _)
    omega
theorem partsOf_mem (s : ByteArray) : ∀ z ∈ partsOf s, z.size ≤ s.size := by
  unfold partsOf
  split
  · intro z hz; cases hz
  · intro z hz; exact splitB_mem rfl hz
theorem PcsAt.only {w w' : World} {base g : Nat} {A : Option Addr} {zs : List ByteArray} (h : PcsAt w base A zs) (ho : Only g w w') (hg : g < base) : PcsAt w' base A zs := by
  intro hn
  obtain ⟨b, e, h1, h2, hc⟩ := h hn
  exact ⟨b, e, h1, Nat.lt_of_lt_of_le h2 ho.size, fun j z hz => (ho.cell h2 (by omega)).trans (hc j z hz)⟩
theorem take_map {α β : Type} (f : α → β) (l : List α) (j : Nat) (z : α) (h : l[j]? = some z) : (l.take (j + 1)).map f = (l.take j).map f ++ [f z] := by
  rw [List.take_add_one, h]; simp
theorem take_first (f : ByteArray → Int) (l : List ByteArray) (j : Nat) (z : ByteArray) (h : l[j]? = some z) : firstE f (l.take (j + 1)) = if firstE f (l.take j) = 0 then f z else firstE f (l.take j) := by
  rw [List.take_add_one, h]; exact firstE_snoc f z _
theorem one_times (t : T4) : ∀ u ∈ encT t, u.oneCell' = true := by
  intro u hu; simp [encT] at hu; rcases hu with rfl | rfl | rfl | rfl <;> rfl

set_option maxHeartbeats 4000000 in
theorem ftimes_stop (g : Nat) (line : Int) (F : Option Addr) (q c k : Nat) (p : Prob) (d sl b m n : Int) (w : World) (h : Scan w g line F q c k (some p)) :
    Calls Tryz.prog 44 #[.pointer (some ⟨g, 0, none⟩), .agg #[.int .i64 d, .int .i64 sl, .int .i64 b, .int .i64 m], .int .i64 n] w fun e w' => e = .returned (.slice none 0 0) ∧ Below w.heap.size w w' := by
  have hp : Calls Tryz.prog 81 #[.pointer (some ⟨g, 0, none⟩), .string ⟨#[59]⟩] (w.alloc (.cells #[.int .i64 d, .int .i64 sl, .int .i64 b, .int .i64 m] 24)) fun e w' => e = .returned (.slice none 0 0) ∧ w.alloc (.cells #[.int .i64 d, .int .i64 sl, .int .i64 b, .int .i64 m] 24) = w' := by
    have h' := h.later (ext_alloc (Below.refl _ _) (.cells #[.int .i64 d, .int .i64 sl, .int .i64 b, .int .i64 m] 24))
    go_enter Tryz.func81, Tryz.ntmps81
    go_wp2_with fail
    refine (fnext_stop g line F q c k p _ h').mono ?_
    rintro e w1 ⟨rfl, rfl⟩
    go_wp2
    go_ret
    exact ⟨rfl, rfl⟩
  go_enter Tryz.func44, Tryz.ntmps44
  go_wp2_with fail
  refine hp.mono ?_
  rintro e w1 ⟨rfl, rfl⟩
  go_wp2
  refine wp_loop_rounds 1 ?_
  rw [rounds_succ]
  go_wp2
  go_ret
  exact ⟨rfl, (by repeat (first | exact Below.refl _ _ | refine ext_alloc ?_ _ | refine ext_drewN ?_ _ | refine ext_drew ?_ | refine ext_trans ?_ (by assumption)))⟩

theorem new_four (w : World) (a b c d : Int) (t : TypeId) : ∀ (j : Nat) (u : Value), (encT (a, b, c, d))[j]? = some u → (w.alloc (.cells #[.int .i64 a, .int .i64 b, .int .i64 c, .int .i64 d] t)).cell? ((⟨w.heap.size, 0, none⟩ : Addr).add j) = some u := by
  intro j u hu
  match j, hu with
  | 0, hu => simp [encT] at hu; subst hu; simp [Addr.add]
  | 1, hu => simp [encT] at hu; subst hu; simp [Addr.add]
  | 2, hu => simp [encT] at hu; subst hu; simp [Addr.add]
  | 3, hu => simp [encT] at hu; subst hu; simp [Addr.add]
  | j + 4, hu => simp [encT] at hu
theorem owns_form {w : World} {B : Nat} {e : TypeId} {k n : Nat} {v : Value} {xs : List Value} (h : w.ownsRow B e k v n xs) : ∃ A c, v = .slice A n c := by
  rcases h.2 with ⟨h1, h2⟩ | ⟨g, cap, cur, h1, _⟩
  · subst h2; exact ⟨none, 0, h1⟩
  · exact ⟨_, _, h1⟩
theorem own_far {w : World} {B g : Nat} {e : TypeId} {k n : Nat} {v : Value} {xs : List Value} (h : w.ownsRow B e k v n xs) (hg : g < B) : some g ≠ v.ownBlock := by
  intro e
  have := (h.lt g e.symm).1
  omega
theorem own_high {w : World} {B C : Nat} {e : TypeId} {k n : Nat} {v : Value} {xs : List Value} (h : w.ownsRow B e k v n xs) (hc : C ≤ B) : ∀ x, v.ownBlock = some x → C ≤ x := by
  intro x e
  have := (h.lt x e).1
  omega
theorem Scan.grown {w w' : World} {g : Nat} {line : Int} {F : Option Addr} {m c k : Nat} {pr : Option Prob} {e : TypeId} {B s n : Nat} {v : Value} {xs : List Value} (h : Scan w g line F m c k pr) (ho : w.ownsRow B e s v n xs) (hb : w.grownBy w' v.ownBlock) (hg : some g ≠ v.ownBlock) (hne : e ≠ 56) : Scan w' g line F m c k pr := by
  obtain ⟨u, hgg, hp⟩ := h
  refine ⟨u, (hb.block g (blk_lt hgg) hg).trans hgg, ?_⟩
  cases pr with
  | none => exact hp
  | some p =>
    obtain ⟨x, e1, hx⟩ := hp
    refine ⟨x, e1, hx.of_block (hb.block x (blk_lt hx) fun e2 => ?_)⟩
    rcases ho.2 with ⟨rfl, _⟩ | ⟨g', cap, cur, rfl, _, hh, _⟩
    · simp [Value.ownBlock] at e2
    · have e3 : x = g' := by simpa [Value.ownBlock] using e2
      subst e3
      unfold ProbAt at hx
      rw [hx] at hh
      injection hh with hh
      injection hh with _ ht
      exact hne ht.symm
theorem Only.trans_own {g : Nat} {a b c : World} {v : Value} (h : Only g a b) (k : b.grownBy c v.ownBlock) (hv : ∀ x, v.ownBlock = some x → a.heap.size ≤ x) : Only g a c :=
  ⟨k.os.trans h.os, k.tape.trans h.tape, k.output.trans h.output, Nat.le_trans h.size k.size, fun i hi hne => (k.block i (Nat.lt_of_lt_of_le hi h.size) (fun e => by have := hv i e.symm; omega)).trans (h.block i hi hne)⟩
theorem tgParse_at {d sl b m n : Int} {z : ByteArray} {x1 x2 x3 x4 er : Int} (hT : pieceT d sl b m n z = (x1, x2, x3, x4, er)) (hs : z.size < 1073741824) (w : World) (hS : Std w) :
    Calls Tryz.prog 82 #[.agg #[.int .i64 d, .int .i64 sl, .int .i64 b, .int .i64 m], .int .i64 n, .string z] w fun e w' => e = .returned (.tuple #[.agg #[.int .i64 x1, .int .i64 x2, .int .i64 x3, .int .i64 x4], .int .i64 er]) ∧ Below w.heap.size w w' := by
  have := tgParse_walk d sl b m n z hs w hS
  unfold pieceT at hT
  rw [hT] at this
  exact this
def TimesLoop (d sl b m n : Int) (zs : List ByteArray) (B : Nat) (w1 : World) (g : Nat) (line col : Int) (F : Option Addr) (q c k : Nat) (v i : Value) (wr : World) : Prop :=
  ∃ j : Nat, j ≤ zs.length ∧ i = .int .i64 j ∧ TimesOwn B wr v ((zs.take j).map (pieceV d sl b m n)) ∧ Scan wr g line F q c k (probOf line col (firstE (pieceE d sl b m n) (zs.take j))) ∧ Only g w1 wr
set_option maxHeartbeats 4000000 in
theorem ftimes_go (B g : Nat) (line : Int) (F : Option Addr) (fs : List Fld) (c k : Nat) (d sl b m n : Int) (w : World) (hS : Std w) (h : Scan w g line F fs.length c k none) (hF : FieldsAt B w F fs) (h2 : k < fs.length) (hm : fs.length ≤ 1000) (hB : B ≤ g) (hG : 10 ≤ g)
    (hs : (textAt fs k).size < 1073741824) :
    Calls Tryz.prog 44 #[.pointer (some ⟨g, 0, none⟩), .agg #[.int .i64 d, .int .i64 sl, .int .i64 b, .int .i64 m], .int .i64 n] w fun e w' =>
      TimesGives w g line (colAt fs (k + 1)) F fs.length c (k + 1) ((partsOf (textAt fs k)).map (pieceV d sl b m n)) (timesE d sl b m n (partsOf (textAt fs k))) e w' := by
  obtain ⟨zs, hz⟩ : ∃ zs, partsOf (textAt fs k) = zs := ⟨_, rfl⟩
  have hzl : zs.length ≤ 1073741825 := by have := partsOf_len (textAt fs k); rw [hz] at this; omega
  have hzm : ∀ z ∈ zs, z.size < 1073741824 := by have := partsOf_mem (textAt fs k); rw [hz] at this; intro z h; have := this z h; omega
  rw [hz]
  have hlt := h.lt
  obtain ⟨col, hcol⟩ : ∃ col, colAt fs (k + 1) = col := ⟨_, rfl⟩
  rw [hcol]
  replace hcol := hide hcol
  obtain ⟨i0, hi, hz0, hz1, hz2⟩ := info_parts infoTime
  go_enter Tryz.func44, Tryz.ntmps44
  go_wp2_with fail
  have bG := Box4.new w 24 (.int .i64 d) (.int .i64 sl) (.int .i64 b) (.int .i64 m)
  have hb0 : Below w.heap.size w (w.alloc (.cells #[.int .i64 d, .int .i64 sl, .int .i64 b, .int .i64 m] 24)) := ext_alloc (Below.refl _ _) _
  refine (fparts_go B g line F fs c k _ (hS.alloc _) (h.later hb0) (hF.below (hb0.mono (by omega))) h2 hm hB hG hs).mono ?_
  rintro e w1 ⟨A, cap, rfl, hA, hs1, ho1⟩
  rw [hz] at hA
  rw [hz]
  obtain ⟨gb, hgb⟩ : ∃ gb, w.heap.size = gb := ⟨_, rfl⟩
  have bG1 := bG.only ho1 (by omega)
  have hF1 := (hF.below (hb0.mono (by have := h.lt; omega))).only ho1 hB (by rw [World.size_alloc]; omega)
  have hS1 := ho1.std (hS.alloc _) hG
  have ho : Only g w w1 := (World.grownBy_alloc _ _ _).trans ho1
  have hA1 : PcsAt w1 gb A zs := by rw [← hgb]; intro hn; obtain ⟨x, e, h1, h2, h3⟩ := hA hn; exact ⟨x, e, by rw [World.size_alloc] at h1; omega, h2, h3⟩
  clear ho1 hb0 bG hA hz hF hS h
  rw [hgb] at bG1
  have hz1w := ho.size
  obtain ⟨w1s, hw1s⟩ : ∃ w1s, w1.heap.size = w1s := ⟨_, rfl⟩
  replace hw1s := hide hw1s
  have hgw : g < w1s := by rw [← hw1s.out]; omega
  have hgl : g < gb := by omega
  have hgg : gb ≠ g := by omega
  rw [hgb]
  obtain ⟨len, hlen⟩ : ∃ len, zs.length = len := ⟨_, rfl⟩
  rw [hlen] at hzl
  rw [hlen]
  replace hlen := hide hlen
  replace hgb := hide hgb
  replace hzm := hide hzm
  go_wp2
  go_loopw [7, 15] (fun v i wr => TimesLoop d sl b m n zs w1s w1 g line col F fs.length c (k + 1) v i wr) (fun _ i _ => len - (intOf i).toNat)
  case atStart => exact ⟨0, Nat.zero_le _, rfl, World.ownsRow_nil _ _ _ _, hs1, World.grownBy.refl _ _⟩
  case round =>
    obtain ⟨j, hj, rfl, hown, hsr, hor⟩ := hrel
    rw [hlen.out] at hj
    by_cases hlt : j < len
    · obtain ⟨z, hzj⟩ : ∃ z, zs[j]? = some z := ⟨_, List.getElem?_eq_getElem (by rw [hlen.out]; exact hlt)⟩
      have hzz := hzm.out z (List.mem_of_getElem? hzj)
      obtain ⟨bs, rfl, q1, q2, hcl⟩ := (hA1.only hor (by omega)) (by rw [hlen.out]; omega)
      have hcj := hcl j z hzj
      clear hcl
      have bG := bG1.only hor hgg
      obtain ⟨a0, a1, a2, a3⟩ := bG
      have hSr := hor.std hS1 hG
      have hFr := hF1.only hor hB (by rw [hw1s.out]; omega)
      have hwr := hor.size
      rw [hw1s.out] at hwr
      obtain ⟨x1, x2, x3, x4, er, hT⟩ : ∃ x1 x2 x3 x4 er, pieceT d sl b m n z = (x1, x2, x3, x4, er) := ⟨_, _, _, _, _, rfl⟩
      have hts : Hid ((zs.take (j + 1)).map (pieceV d sl b m n) = (zs.take j).map (pieceV d sl b m n) ++ [(x1, x2, x3, x4)]) := by
        refine hide ((take_map _ zs j z hzj).trans ?_); unfold pieceV; rw [hT]
      have hes : Hid (firstE (pieceE d sl b m n) (zs.take (j + 1)) = if firstE (pieceE d sl b m n) (zs.take j) = 0 then er else firstE (pieceE d sl b m n) (zs.take j)) := by
        refine hide ((take_first _ zs j z hzj).trans ?_); unfold pieceE; rw [hT]
      obtain ⟨ts, hts0⟩ : ∃ ts, (zs.take j).map (pieceV d sl b m n) = ts := ⟨_, rfl⟩
      have htl : ts.length ≤ j := by rw [← hts0, List.length_map]; exact List.length_take_le _ _
      rw [hts0] at hown hts
      obtain ⟨e0, he0⟩ : ∃ e0, firstE (pieceE d sl b m n) (zs.take j) = e0 := ⟨_, rfl⟩
      rw [he0] at hsr hes
      replace hT := hide hT
      clear hts0 he0 hzj
      go_wp2_with fail
      refine (tgParse_at hT.out hzz wr hSr).mono ?_
      rintro e w2 ⟨rfl, hb2⟩
      have hs2 := hsr.later (ext_alloc hb2 (.cells #[.int .i64 x1, .int .i64 x2, .int .i64 x3, .int .i64 x4] 50))
      have hF2 := hFr.below ((ext_alloc hb2 (.cells #[.int .i64 x1, .int .i64 x2, .int .i64 x3, .int .i64 x4] 50)).mono (by omega))
      have hown2 := owns_later hown (ext_alloc hb2 (.cells #[.int .i64 x1, .int .i64 x2, .int .i64 x3, .int .i64 x4] 50))
      have ho2 := hor.later (ext_alloc hb2 (.cells #[.int .i64 x1, .int .i64 x2, .int .i64 x3, .int .i64 x4] 50))
      have bT := Box4.new w2 50 (.int .i64 x1) (.int .i64 x2) (.int .i64 x3) (.int .i64 x4)
      have hz2w := hb2.size
      clear hown hsr hor hFr hSr hT hb2
      go_wp2_with fail
      refine (fail_walk B g line F fs c (k + 1) _ er _ hs2 hF2 (by omega) (by omega) hm).mono ?_
      rintro e w3 ⟨rfl, hs3, ho3⟩
      rw [hcol.out, noted_prob] at hs3
      have hz3w := ho3.size
      rw [World.size_alloc] at hz3w
      have bT3 := bT.only ho3 (by omega)
      have hown3 := owns_only hown2 ho3 (by omega)
      have ho3' := ho2.trans ho3
      clear hown2 hs2 ho2 ho3 bT hF2
      obtain ⟨t0, t1, t2, t3⟩ := bT3
      go_wp2_with (at_builtin; refine wpList_append_own _ rfl _ _ 45 rfl w1s 50 i0 (.agg #[.int .i64 0, .int .i64 0, .int .i64 0, .int .i64 0]) 4 32 Tryz.underlying45 hi hz0 hz1 hz2 rfl (by decide) _ _ _ rfl (hown3.alloc _) ⟨w3.heap.size, 0, none⟩ 1 1 (encT (x1, x2, x3, x4)) rfl rfl (new_four _ _ _ _ _ _) (one_times _) ?c3 ?c4 ?c5 ?_)
      case c3 => unfold maxLen; omega
      case c4 => omega
      case c5 => rw [World.size_alloc]; omega
      intro v' w4 hown4 hgrow _
      have hs4 : Scan w4 g line F fs.length c (k + 1) (probOf line col (if e0 = 0 then er else e0)) := (hs3.later (ext_alloc (Below.refl _ _) _)).grown (hown3.alloc _) hgrow (own_far hown3 (by omega)) (by decide)
      have ho4 : Only g w1 w4 := (Only.later ho3' (ext_alloc (Below.refl _ _) _)).trans_own hgrow (own_high hown3 (by rw [hw1s.out]; omega))
      clear hown3 hs3 ho3'
      go_wp2
      go_roundw
      case rel => exact ⟨j + 1, by rw [hlen.out]; omega, by go_num, by rw [hts.out]; unfold TimesOwn; rw [List.length_append, flatT_snoc]; exact hown4, by rw [hes.out]; exact hs4, ho4⟩
      case measure => simp [intOf]; omega
    · obtain rfl : j = len := by omega
      have hall : Hid (zs.take j = zs) := hide (by rw [← hlen.out]; exact List.take_length)
      rw [hall.out] at hown hsr
      have hlm : (zs.map (pieceV d sl b m n)).length = j := by rw [List.length_map]; exact hlen.out
      have hown0 := owns_lower hown (C := w.heap.size) (by rw [← hw1s.out]; exact hz1w)
      obtain ⟨A', c', rfl⟩ := owns_form hown
      rw [hlm]
      have hfin : ∀ v' w', v' = Value.slice A' j c' → Only g wr w' → TimesOwn w.heap.size w' v' (zs.map (pieceV d sl b m n)) := fun v' w' e ho' => by
        rw [e]; have := owns_only hown ho' hgw; rw [hlm] at this; unfold TimesOwn; rw [hlm]; exact owns_lower this (by rw [← hw1s.out]; exact hz1w)
      have hor' := ho.trans hor
      replace hlm := hide hlm
      replace hfin := hide hfin
      obtain ⟨e0, he0⟩ : ∃ e0, firstE (pieceE d sl b m n) zs = e0 := ⟨_, rfl⟩
      have het : Hid (timesE d sl b m n zs = if e0 = 0 then (if 24 < j then 2 else 0) else e0) := by
        unfold timesE; rw [he0, hlen.out]; exact hide rfl
      rw [he0] at hsr
      have hFr := hF1.only hor hB (by rw [hw1s.out]; omega)
      clear hown hall hown0 he0 hor
      by_cases h24 : 24 < j
      · rw [if_pos h24] at het
        go_wp2_with fail
        refine (fail_walk B g line F fs c (k + 1) _ 2 _ hsr hFr (by omega) (by omega) hm).mono ?_
        rintro e w3 ⟨rfl, hs3, ho3⟩
        rw [hcol.out, noted_prob] at hs3
        go_wp2
        go_ret
        exact ⟨_, rfl, hfin.out _ _ rfl ho3, by rw [het.out]; exact hs3, hor'.trans ho3⟩
      · rw [if_neg h24] at het
        go_wp2
        go_ret
        exact ⟨_, rfl, hfin.out _ _ rfl (Only.refl _ _), by rw [het.out, show (if e0 = 0 then (0 : Int) else e0) = e0 from by split <;> simp [*]]; exact hsr, hor'⟩
end Go.Proofs.YtnbcaklnpflihaaGreatDoor

namespace Go.Proofs.YtnbcaklnpflihaaGreatDoor
open Go.RowKit
set_option maxRecDepth 100000

/-- A kind of data: how many cells, what they say; S: the blocks that they may point to. -/
structure Kind (α : Type) where
  k : Nat
  rep : (Nat → Prop) → World → α → List Value → Prop
  kept : ∀ {S S' : Nat → Prop} {w w' : World} {a : α} {vs : List Value}, rep S w a vs → (∀ b, S b → b < w.heap.size → S' b ∧ b < w'.heap.size ∧ w'.heap[b]? = w.heap[b]?) → rep S' w' a vs
  len : ∀ {S : Nat → Prop} {w : World} {a : α} {vs : List Value}, rep S w a vs → vs.length = k
  one : ∀ {S : Nat → Prop} {w : World} {a : α} {vs : List Value}, rep S w a vs → ∀ u ∈ vs, u.oneCell' = true
abbrev AnyB : Nat → Prop := fun _ => True
/-- Data of a kind, one behind the other. -/
def At {α : Type} (K : Kind α) (S : Nat → Prop) (w : World) (A : Option Addr) (l : List α) : Prop :=
  0 < l.length → ∃ b off, A = some ⟨b, off, none⟩ ∧ S b ∧ b < w.heap.size ∧ ∀ j x, l[j]? = some x → ∃ vs, K.rep S w x vs ∧ ∀ i u, vs[i]? = some u → w.cell? ⟨b, off + j * K.k + i, none⟩ = some u
section
variable {α β : Type} {K : Kind α} {L : Kind β} {S S' : Nat → Prop} {w w' : World} {A : Option Addr} {l : List α}
theorem At.kept (h : At K S w A l) (hk : ∀ b, S b → b < w.heap.size → S' b ∧ b < w'.heap.size ∧ w'.heap[b]? = w.heap[b]?) : At K S' w' A l := by
  intro hn
  obtain ⟨b, off, e, hs, hlt, hc⟩ := h hn
  obtain ⟨h1, h2, h3⟩ := hk b hs hlt
  refine ⟨b, off, e, h1, h2, fun j x hx => ?_⟩
  obtain ⟨vs, hr, hcell⟩ := hc j x hx
  exact ⟨vs, K.kept hr hk, fun i u hu => (World.cell?_of_block (a := ⟨b, off + j * K.k + i, none⟩) h3).trans (hcell i u hu)⟩
theorem At.later (h : At K S w A l) (hb : Below w.heap.size w w') : At K S w' A l :=
  h.kept fun b hs hlt => ⟨hs, Nat.lt_of_lt_of_le hlt hb.size, hb.block b hlt⟩
theorem At.below {B : Nat} (h : At K (· < B) w A l) (hb : Below B w w') : At K (· < B) w' A l :=
  h.kept fun b hs hlt => ⟨hs, Nat.lt_of_lt_of_le hlt hb.size, hb.block b hs⟩
theorem At.more (h : At K S w A l) (hS : ∀ b, S b → S' b) : At K S' w A l := h.kept fun b hs hlt => ⟨hS b hs, hlt, rfl⟩
theorem At.any (h : At K S w A l) : At K AnyB w A l := h.more fun _ _ => trivial
theorem At.lo (h : At K S w A l) : At K (· < w.heap.size) w A l := h.kept fun _ _ hlt => ⟨hlt, hlt, rfl⟩
theorem At.up {B C : Nat} (h : At K (· < B) w A l) (hB : B ≤ C) : At K (· < C) w A l := h.more fun _ hb => Nat.lt_of_lt_of_le hb hB
theorem Kind.later (K : Kind α) {a : α} {vs : List Value} (h : K.rep S w a vs) (hb : Below w.heap.size w w') : K.rep S w' a vs :=
  K.kept h fun b hs hlt => ⟨hs, Nat.lt_of_lt_of_le hlt hb.size, hb.block b hlt⟩
theorem Kind.more (K : Kind α) {a : α} {vs : List Value} (h : K.rep S w a vs) (hS : ∀ b, S b → S' b) : K.rep S' w a vs := K.kept h fun b hs hlt => ⟨hS b hs, hlt, rfl⟩
theorem Kind.lo (K : Kind α) {a : α} {vs : List Value} (h : K.rep S w a vs) : K.rep (· < w.heap.size) w a vs := K.kept h fun _ _ hlt => ⟨hlt, hlt, rfl⟩
end
/-! The kinds. -/
def kStr : Kind ByteArray := ⟨1, fun _ _ a vs => vs = [.string a], fun h _ => h, fun h => by rw [h]; rfl, fun h u hu => by rw [h] at hu; simp at hu; subst hu; rfl⟩
def kInt : Kind Int := ⟨1, fun _ _ a vs => vs = [.int .i64 a], fun h _ => h, fun h => by rw [h]; rfl, fun h u hu => by rw [h] at hu; simp at hu; subst hu; rfl⟩
def kBool : Kind Bool := ⟨1, fun _ _ a vs => vs = [.bool a], fun h _ => h, fun h => by rw [h]; rfl, fun h u hu => by rw [h] at hu; simp at hu; subst hu; rfl⟩
def kPair {α β : Type} (K : Kind α) (L : Kind β) : Kind (α × β) where
  k := K.k + L.k
  rep S w a vs := ∃ us ts, vs = us ++ ts ∧ K.rep S w a.1 us ∧ L.rep S w a.2 ts
  kept := fun ⟨us, ts, e, h1, h2⟩ hk => ⟨us, ts, e, K.kept h1 hk, L.kept h2 hk⟩
  len := fun ⟨us, ts, e, h1, h2⟩ => by rw [e, List.length_append, K.len h1, L.len h2]
  one := fun ⟨us, ts, e, h1, h2⟩ u hu => by
    rw [e] at hu
    rcases List.mem_append.1 hu with h | h
    · exact K.one h1 u h
    · exact L.one h2 u h
def kSlice {α : Type} (K : Kind α) : Kind (List α) where
  k := 1
  rep S w l vs := ∃ A c, vs = [.slice A l.length c] ∧ l.length ≤ c ∧ At K S w A l
  kept := fun ⟨A, c, e, h1, h2⟩ hk => ⟨A, c, e, h1, h2.kept hk⟩
  len := fun ⟨A, c, e, _, _⟩ => by rw [e]; rfl
  one := fun ⟨A, c, e, _, _⟩ u hu => by rw [e] at hu; simp at hu; subst hu; rfl
def kMap {α β : Type} (f : β → α) (K : Kind α) : Kind β where
  k := K.k
  rep S w b vs := K.rep S w (f b) vs
  kept := fun h hk => K.kept h hk
  len := fun h => K.len h
  one := fun h => K.one h
section
variable {α β : Type} {K : Kind α} {L : Kind β} {S S' : Nat → Prop} {w w' : World} {A : Option Addr} {l : List α} {vs : List Value}
theorem rep_str {a : ByteArray} : kStr.rep S w a vs ↔ vs = [.string a] := Iff.rfl
theorem rep_int {a : Int} : kInt.rep S w a vs ↔ vs = [.int .i64 a] := Iff.rfl
theorem rep_bool {a : Bool} : kBool.rep S w a vs ↔ vs = [.bool a] := Iff.rfl
theorem rep_pair {a : α × β} : (kPair K L).rep S w a vs ↔ ∃ us ts, vs = us ++ ts ∧ K.rep S w a.1 us ∧ L.rep S w a.2 ts := Iff.rfl
theorem rep_slice : (kSlice K).rep S w l vs ↔ ∃ A c, vs = [.slice A l.length c] ∧ l.length ≤ c ∧ At K S w A l := Iff.rfl
/-- The cells of element j. -/
theorem At.get (h : At K S w A l) {j : Nat} {x : α} (hj : l[j]? = some x) : ∃ b off vs, A = some ⟨b, off, none⟩ ∧ S b ∧ b < w.heap.size ∧ K.rep S w x vs ∧ ∀ i u, vs[i]? = some u → w.cell? ⟨b, off + j * K.k + i, none⟩ = some u := by
  have hjl := (List.getElem?_eq_some_iff.1 hj).1
  obtain ⟨b, off, e, hs, hlt, hc⟩ := h (by omega)
  obtain ⟨vs, hr, hcell⟩ := hc j x hj
  exact ⟨b, off, vs, e, hs, hlt, hr, hcell⟩
theorem At.str {zs : List ByteArray} (h : At kStr S w A zs) {j : Nat} {z : ByteArray} (hj : zs[j]? = some z) : ∃ b off, A = some ⟨b, off, none⟩ ∧ S b ∧ b < w.heap.size ∧ w.cell? ⟨b, off + j, none⟩ = some (.string z) := by
  obtain ⟨b, off, vs, e, hs, hlt, hr, hc⟩ := h.get hj
  rw [rep_str] at hr
  subst hr
  exact ⟨b, off, e, hs, hlt, by simpa [kStr] using hc 0 _ rfl⟩
theorem At.int {zs : List Int} (h : At kInt S w A zs) {j : Nat} {z : Int} (hj : zs[j]? = some z) : ∃ b off, A = some ⟨b, off, none⟩ ∧ S b ∧ b < w.heap.size ∧ w.cell? ⟨b, off + j, none⟩ = some (.int .i64 z) := by
  obtain ⟨b, off, vs, e, hs, hlt, hr, hc⟩ := h.get hj
  rw [rep_int] at hr
  subst hr
  exact ⟨b, off, e, hs, hlt, by simpa [kInt] using hc 0 _ rfl⟩
theorem At.slice {xs : List (List α)} (h : At (kSlice K) S w A xs) {j : Nat} {x : List α} (hj : xs[j]? = some x) : ∃ b off F c, A = some ⟨b, off, none⟩ ∧ S b ∧ b < w.heap.size ∧ w.cell? ⟨b, off + j, none⟩ = some (.slice F x.length c) ∧ x.length ≤ c ∧ At K S w F x := by
  obtain ⟨b, off, vs, e, hs, hlt, hr, hc⟩ := h.get hj
  obtain ⟨F, c, rfl, h1, h2⟩ := hr
  exact ⟨b, off, F, c, e, hs, hlt, by simpa [kSlice] using hc 0 _ rfl, h1, h2⟩
theorem At.take {k : Nat} (h : At K S w A l) : At K S w A (l.take k) := by
  intro hn
  obtain ⟨b, off, e, hs, hlt, hc⟩ := h (by rw [List.length_take] at hn; omega)
  refine ⟨b, off, e, hs, hlt, fun j x hx => hc j x ?_⟩
  rw [List.getElem?_take] at hx
  split at hx
  · exact hx
  · cases hx
end
/-! Data in memory of their own: rows that may be appended to. -/
/-- Block b holds a row of one of these types. -/
def TyAt (ts : List TypeId) (w : World) (b : Nat) : Prop := ∃ cs t, w.heap[b]? = some (.cells cs t (0, 0)) ∧ t ∈ ts
/-- Blocks below B0, or from B on with one of these types. -/
def Ty (ts : List TypeId) (B0 B : Nat) (w : World) : Nat → Prop := fun b => b < B0 ∨ (B ≤ b ∧ TyAt ts w b)
/-- A row of its own from block B on, that holds l; what its elements point to lies below B0, or from B on in blocks of the types ts. -/
def Own {α : Type} (K : Kind α) (t : TypeId) (ts : List TypeId) (B0 B : Nat) (w : World) (v : Value) (l : List α) : Prop :=
  ∃ vss : List (List Value), vss.length = l.length ∧ w.ownsRow B t K.k v l.length vss.flatten ∧ ∀ (j : Nat) (x : α) (vs : List Value), l[j]? = some x → vss[j]? = some vs → K.rep (Ty ts B0 B w) w x vs
theorem flatten_at {k : Nat} : ∀ (vss : List (List Value)), (∀ vs ∈ vss, vs.length = k) → ∀ (j i : Nat) (vs : List Value), vss[j]? = some vs → i < k → vss.flatten[j * k + i]? = vs[i]?
  | [], _, j, i, vs, h, _ => by simp at h
  | us :: vss, hk, 0, i, vs, h, hi => by
    have h1 := hk us (by simp)
    simp at h
    subst h
    simp only [List.flatten_cons, Nat.zero_mul, Nat.zero_add]
    exact List.getElem?_append_left (by omega)
  | us :: vss, hk, j + 1, i, vs, h, hi => by
    have h1 := hk us (by simp)
    simp only [List.getElem?_cons_succ] at h
    rw [List.flatten_cons, List.getElem?_append_right (by rw [h1, Nat.add_mul]; omega), show (j + 1) * k + i - us.length = j * k + i from by rw [h1, Nat.add_mul]; omega]
    exact flatten_at vss (fun vs hv => hk vs (by simp [hv])) j i vs h hi
section
variable {α : Type} {K : Kind α} {t : TypeId} {ts : List TypeId} {B0 B : Nat} {w w' : World} {v : Value} {l : List α}
theorem Own.nil : Own K t ts B0 B w (.slice none 0 0) ([] : List α) := ⟨[], rfl, World.ownsRow_nil _ _ _ _, fun j x vs h => by simp at h⟩
theorem Own.form (h : Own K t ts B0 B w v l) : ∃ A c, v = .slice A l.length c := by obtain ⟨vss, -, h, -⟩ := h; exact owns_form h
theorem Own.cap {A : Option Addr} {n c : Nat} (h : Own K t ts B0 B w (.slice A n c) l) : l.length ≤ c := by
  obtain ⟨vss, -, h, -⟩ := h
  rcases h.2 with ⟨e, h0⟩ | ⟨g, cap, cur, e, -, -, hn, -⟩
  · injection e; omega
  · injection e; omega
theorem Own.le (h : Own K t ts B0 B w v l) : l.length ≤ 9223372036854775807 := by
  obtain ⟨vss, -, h, -⟩ := h
  rcases h.2 with ⟨_, h0⟩ | ⟨_, cap, _, _, _, _, h1, h2, _⟩
  · omega
  · unfold maxLen at h2; omega
/-- A row of its own that is grown, or a block of another type that is written, leaves it as it is. -/
theorem Own.kept {row : Option Nat} (h : Own K t ts B0 B w v l) (hg : w.grownBy w' row) (h1 : v.ownBlock = none ∨ v.ownBlock ≠ row) (h2 : ∀ g, row = some g → B0 ≤ g ∧ ¬ (B ≤ g ∧ TyAt ts w g)) : Own K t ts B0 B w' v l := by
  obtain ⟨vss, e1, e2, e3⟩ := h
  refine ⟨vss, e1, e2.kept hg h1, fun j x vs hj hv => K.kept (e3 j x vs hj hv) fun b hs hlt => ?_⟩
  have hb : w'.heap[b]? = w.heap[b]? := hg.block b hlt fun e => by
    obtain ⟨h3, h4⟩ := h2 b e.symm
    rcases hs with hs | hs
    · omega
    · exact h4 hs
  refine ⟨?_, Nat.lt_of_lt_of_le hlt hg.size, hb⟩
  rcases hs with hs | ⟨hs, cs, t', hc, ht⟩
  · exact .inl hs
  · exact .inr ⟨hs, cs, t', hb.trans hc, ht⟩
theorem Own.later (h : Own K t ts B0 B w v l) (hb : Below w.heap.size w w') : Own K t ts B0 B w' v l :=
  h.kept (row := none) ⟨hb.os, hb.tape, hb.output, hb.size, fun k hk _ => hb.block k hk⟩ (by cases v.ownBlock <;> simp) (fun g e => by cases e)
theorem Own.alloc (h : Own K t ts B0 B w v l) (o : Obj) : Own K t ts B0 B (w.alloc o) v l := h.later (ext_alloc (Below.refl _ _) _)
theorem Own.drew (h : Own K t ts B0 B w v l) : Own K t ts B0 B w.drew v l := h.later (ext_drew (Below.refl _ _))
/-- Another row, of an element type apart, is grown. -/
theorem Own.grown {C e s n : Nat} {u : Value} {xs : List Value} (h : Own K t ts B0 B w v l) (ho : w.ownsRow C e s u n xs) (hC : B0 ≤ C) (hg : w.grownBy w' u.ownBlock) (h1 : t ≠ e) (h2 : e ∉ ts) : Own K t ts B0 B w' v l := by
  refine h.kept hg ?_ fun g hg' => ?_
  · obtain ⟨vss, -, h, -⟩ := h
    rcases h.2 with ⟨rfl, _⟩ | ⟨x, cap, cur, rfl, _, hx, _⟩
    · exact .inl rfl
    · refine .inr fun e2 => ?_
      rcases ho.2 with ⟨rfl, _⟩ | ⟨y, cap', cur', rfl, _, hy, _⟩
      · simp [Value.ownBlock] at e2
      · have : x = y := by simpa [Value.ownBlock] using e2
        subst this
        rw [hx] at hy
        injection hy with h3
        injection h3 with _ h4
        exact h1 h4
  · rcases ho.2 with ⟨rfl, _⟩ | ⟨y, cap', cur', rfl, hy0, hy, _⟩
    · simp [Value.ownBlock] at hg'
    · have : y = g := by simpa [Value.ownBlock] using hg'
      subst this
      refine ⟨by omega, fun ⟨_, cs, t', hc, ht⟩ => h2 ?_⟩
      rw [hy] at hc
      injection hc with h3
      injection h3 with _ h4
      rw [h4]; exact ht
/-- A block of a type apart is written. -/
theorem Own.only {g : Nat} {cs : Array Value} {e : TypeId} {fr : Nat × Nat} (h : Own K t ts B0 B w v l) (ho : Only g w w') (hg : w.heap[g]? = some (.cells cs e fr)) (hB : B0 ≤ g) (h1 : t ≠ e) (h2 : e ∉ ts) : Own K t ts B0 B w' v l := by
  refine h.kept ho ?_ fun x hx => ?_
  · obtain ⟨vss, -, h, -⟩ := h
    rcases h.2 with ⟨rfl, _⟩ | ⟨x, cap, cur, rfl, _, hx, _⟩
    · exact .inl rfl
    · refine .inr fun e2 => ?_
      have : x = g := by simpa [Value.ownBlock] using e2
      subst this
      rw [hx] at hg
      injection hg with h3
      injection h3 with _ h4
      exact h1 h4
  · injection hx with hx
    subst hx
    refine ⟨hB, fun ⟨_, cs', t', hc, ht⟩ => h2 ?_⟩
    rw [hg] at hc
    injection hc with h3
    injection h3 with _ h4
    rw [h4]; exact ht
theorem Own.lower {C : Nat} (h : Own K t ts B0 B w v l) (hC : C ≤ B) : Own K t ts B0 C w v l := by
  obtain ⟨vss, e1, e2, e3⟩ := h
  exact ⟨vss, e1, owns_lower e2 hC, fun j x vs hj hv => K.more (e3 j x vs hj hv) fun b hs => by rcases hs with hs | ⟨hs, h⟩; exact .inl hs; exact .inr ⟨by omega, h⟩⟩
theorem Own.base {C : Nat} (h : Own K t ts B0 B w v l) (hC : B0 ≤ C) : Own K t ts C B w v l := by
  obtain ⟨vss, e1, e2, e3⟩ := h
  exact ⟨vss, e1, e2, fun j x vs hj hv => K.more (e3 j x vs hj hv) fun b hs => by rcases hs with hs | h; exact .inl (by omega); exact .inr h⟩
/-- The row as data. -/
theorem Own.at (h : Own K t ts B0 B w v l) : ∃ A c, v = .slice A l.length c ∧ l.length ≤ c ∧ At K (Ty (t :: ts) B0 B w) w A l := by
  obtain ⟨A, c, rfl⟩ := h.form
  refine ⟨A, c, rfl, h.cap, fun hn => ?_⟩
  obtain ⟨vss, e1, e2, e3⟩ := h
  have hall : ∀ vs ∈ vss, vs.length = K.k := by
    intro vs hv
    obtain ⟨j, hj⟩ := List.getElem?_of_mem hv
    have hjl := (List.getElem?_eq_some_iff.1 hj).1
    exact K.len (e3 j _ vs (List.getElem?_eq_getElem (by omega)) hj)
  rcases e2.2 with ⟨_, h0⟩ | ⟨g, cap, cur, he, hB, hg, _, _, _, htake⟩
  · omega
  · injection he with he
    subst he
    refine ⟨g, 0, rfl, .inr ⟨hB, cur, t, hg, by simp⟩, blk_lt hg, fun j x hx => ?_⟩
    have hjl := (List.getElem?_eq_some_iff.1 hx).1
    have hv : vss[j]? = some (vss[j]'(by omega)) := List.getElem?_eq_getElem (by omega)
    have hr := e3 j x _ hx hv
    refine ⟨_, K.more hr fun b hs => by rcases hs with hs | ⟨hs, cs, t', hc, ht⟩; exact .inl hs; exact .inr ⟨hs, cs, t', hc, by simp [ht]⟩, fun i u hu => ?_⟩
    have hi : i < K.k := by have := (List.getElem?_eq_some_iff.1 hu).1; rw [K.len hr] at this; exact this
    have := e2.cells (g := g) rfl (j * K.k + i) u ((flatten_at vss hall j i _ hv hi).trans hu)
    rw [show (⟨g, 0, none⟩ : Addr).add (j * K.k + i) = ⟨g, 0 + j * K.k + i, none⟩ from by rw [Addr.add_lit]; simp only [Nat.zero_add]] at this
    exact this
theorem Own.rep (h : Own K t ts B0 B w v l) : (kSlice K).rep (Ty (t :: ts) B0 B w) w l [v] := by
  obtain ⟨A, c, rfl, h1, h2⟩ := h.at
  exact ⟨A, c, rfl, h1, h2⟩
theorem Own.any (h : Own K t ts B0 B w v l) : ∃ A c, v = .slice A l.length c ∧ l.length ≤ c ∧ At K (· < w.heap.size) w A l := by
  obtain ⟨A, c, e, h1, h2⟩ := h.at
  exact ⟨A, c, e, h1, h2.lo⟩
/-- An element is appended. -/
theorem Own.snoc {v' : Value} {x : α} {vs : List Value} (vss : List (List Value)) (e1 : vss.length = l.length) (e2 : w.ownsRow B t K.k v l.length vss.flatten)
    (e3 : ∀ (j : Nat) (x : α) (vs : List Value), l[j]? = some x → vss[j]? = some vs → K.rep (Ty ts B0 B w) w x vs) (hx : K.rep (Ty ts B0 B w) w x vs) (ht : t ∉ ts) (hB : B0 ≤ B) (hg : w.grownBy w' v.ownBlock)
    (hn : w'.ownsRow B t K.k v' (l.length + 1) (vss.flatten ++ vs)) : Own K t ts B0 B w' v' (l ++ [x]) := by
  have hk : ∀ {a : α} {us : List Value}, K.rep (Ty ts B0 B w) w a us → K.rep (Ty ts B0 B w') w' a us := fun h => K.kept h fun b hs hlt => by
    have hb : w'.heap[b]? = w.heap[b]? := hg.block b hlt fun e => by
      rcases e2.2 with ⟨rfl, _⟩ | ⟨y, cap', cur', rfl, hy0, hy, _⟩
      · simp [Value.ownBlock] at e
      · have : b = y := by simpa [Value.ownBlock] using e
        subst this
        rcases hs with hs | ⟨_, cs, t', hc, ht'⟩
        · omega
        · rw [hy] at hc
          injection hc with h3
          injection h3 with _ h4
          rw [← h4] at ht'; exact ht ht'
    refine ⟨?_, Nat.lt_of_lt_of_le hlt hg.size, hb⟩
    rcases hs with hs | ⟨hs, cs, t', hc, ht'⟩
    · exact .inl hs
    · exact .inr ⟨hs, cs, t', hb.trans hc, ht'⟩
  refine ⟨vss ++ [vs], by simp [e1], ?_, fun j y us hy hu => ?_⟩
  · rw [List.length_append, List.flatten_append]
    simpa using hn
  · by_cases hj : j < l.length
    · rw [List.getElem?_append_left hj] at hy
      rw [List.getElem?_append_left (by omega)] at hu
      exact hk (e3 j y us hy hu)
    · have hj2 : j = l.length := by
        have := (List.getElem?_eq_some_iff.1 hy).1
        simp at this
        omega
      subst hj2
      rw [List.getElem?_append_right (Nat.le_refl _)] at hy
      rw [List.getElem?_append_right (by omega)] at hu
      simp at hy
      simp [e1] at hu
      subst hy
      subst hu
      exact hk hx
end
end Go.Proofs.YtnbcaklnpflihaaGreatDoor

namespace Go.Proofs.YtnbcaklnpflihaaGreatDoor
open Go.RowKit
set_option maxRecDepth 100000

def orTo (p : Nat → Bool) : Nat → Bool
  | 0 => false
  | k + 1 => orTo p k || p k
theorem orTo_hit {p : Nat → Bool} {k : Nat} (h : p k = true) : ∀ n, k < n → orTo p n = true
  | 0, hk => by omega
  | n + 1, hk => by
    unfold orTo
    by_cases e : k = n
    · subst e; rw [h, Bool.or_true]
    · rw [orTo_hit h n (by omega), Bool.true_or]
/-- The cells of a row of n elements of k cells, in blocks below B. -/
def CellsAt (B : Nat) (w : World) (A : Option Addr) (k n : Nat) (X : Nat → List Value) : Prop :=
  0 < n → ∃ b off, A = some ⟨b, off, none⟩ ∧ b < B ∧ ∀ j, j < n → ∀ i u, (X j)[i]? = some u → w.cell? ⟨b, off + j * k + i, none⟩ = some u
theorem CellsAt.below {B k n : Nat} {w w' : World} {A : Option Addr} {X : Nat → List Value} (h : CellsAt B w A k n X) (hb : Below B w w') : CellsAt B w' A k n X := by
  intro hn
  obtain ⟨b, off, e, h1, hc⟩ := h hn
  exact ⟨b, off, e, h1, fun j hj i u hu => (hb.cell (p := ⟨b, off + j * k + i, none⟩) h1).trans (hc j hj i u hu)⟩
def IdxGives (p : Nat → Bool) (n : Nat) (w : World) (e : Ending) (w' : World) : Prop := ∃ r : Int, e = .returned (.int .i64 r) ∧ decide (0 ≤ r) = orTo p n ∧ Below w.heap.size w w'
-- <find>
set_option maxHeartbeats 2000000 in
theorem idxT_walk (fn : Nat) (lb : Array Value) (eg : ∀ args w, (callFunc fn args).run Tryz.prog w = .ok (.enter fn args) w) (A : Option Addr) (n c : Nat) (X0 X1 X2 X3 : Nat → Value) (p : Nat → Bool) (w : World) (hn : n ≤ 9223372036854775807)
    (hX : CellsAt w.heap.size w A 4 n fun j => [X0 j, X1 j, X2 j, X3 j])
    (hp : ∀ (W : World) (j : Nat), j < n → Below w.heap.size w W → Calls Tryz.prog fn (#[.agg #[X0 j, X1 j, X2 j, X3 j]] ++ lb) W fun e w' => e = .returned (.bool (p j)) ∧ Below w.heap.size w w') :
    Calls Tryz.prog 98 #[.slice A n c, .func (.func fn) #[] lb] w fun e w' => IdxGives p n w e w' := by
  go_enter Tryz.func98, Tryz.ntmps98
  go_wp2
  go_loopw [5, 8] (fun _ i wr => ∃ j : Nat, j ≤ n ∧ i = .int .i64 j ∧ Hid (orTo p j = false) ∧ Below w.heap.size w wr) (fun _ i _ => n - (intOf i).toNat)
  case atStart => exact ⟨0, Nat.zero_le _, rfl, rfl, Below.refl _ _⟩
  case round =>
    obtain ⟨j, hj, rfl, ho, hb⟩ := hrel
    by_cases hlt : j < n
    · obtain ⟨b, off, rfl, hbB, hc⟩ := (hX.below hb) (by omega)
      have k0 := hc j hlt 0 _ rfl
      have k1 := hc j hlt 1 _ rfl
      have k2 := hc j hlt 2 _ rfl
      have k3 := hc j hlt 3 _ rfl
      rw [Nat.add_zero] at k0
      have hcall := hp wr j hlt hb
      clear hc hp hX
      obtain ⟨x0, hx0⟩ : ∃ x, X0 j = x := ⟨_, rfl⟩
      obtain ⟨x1, hx1⟩ : ∃ x, X1 j = x := ⟨_, rfl⟩
      obtain ⟨x2, hx2⟩ : ∃ x, X2 j = x := ⟨_, rfl⟩
      obtain ⟨x3, hx3⟩ : ∃ x, X3 j = x := ⟨_, rfl⟩
      rw [hx0] at k0 hcall
      rw [hx1] at k1 hcall
      rw [hx2] at k2 hcall
      rw [hx3] at k3 hcall
      clear hx0 hx1 hx2 hx3
      cases hq : p j with
      | true =>
        rw [hq] at hcall
        have hit := hide (orTo_hit hq n hlt)
        clear hq
        go_wp2_with (go_at_fn fn; refine hcall.mono ?_; rintro e w' ⟨rfl, hb'⟩)
        go_ret
        exact ⟨j, rfl, by rw [hit.out]; simp, hb'⟩
      | false =>
        rw [hq] at hcall
        have miss : Hid (orTo p (j + 1) = false) := by show orTo p (j + 1) = false; unfold orTo; rw [ho.out, hq]; rfl
        clear hq ho
        go_wp2_with (go_at_fn fn; refine hcall.mono ?_; rintro e w' ⟨rfl, hb'⟩)
        go_roundw
        case rel => exact ⟨j + 1, by omega, by go_num, miss, hb'⟩
        case measure => simp [intOf]; omega
    · obtain rfl : j = n := by omega
      go_wp2
      go_ret
      exact ⟨-1, rfl, by rw [ho.out]; rfl, hb⟩
set_option maxHeartbeats 2000000 in
theorem conT_walk (fn : Nat) (lb : Array Value) (eg : ∀ args w, (callFunc fn args).run Tryz.prog w = .ok (.enter fn args) w) (A : Option Addr) (n c : Nat) (X0 X1 X2 X3 : Nat → Value) (p : Nat → Bool) (w : World) (hn : n ≤ 9223372036854775807)
    (hX : CellsAt w.heap.size w A 4 n fun j => [X0 j, X1 j, X2 j, X3 j])
    (hp : ∀ (W : World) (j : Nat), j < n → Below w.heap.size w W → Calls Tryz.prog fn (#[.agg #[X0 j, X1 j, X2 j, X3 j]] ++ lb) W fun e w' => e = .returned (.bool (p j)) ∧ Below w.heap.size w w') :
    Calls Tryz.prog 65 #[.slice A n c, .func (.func fn) #[] lb] w fun e w' => e = .returned (.bool (orTo p n)) ∧ Below w.heap.size w w' := by
  have hcall := idxT_walk fn lb eg A n c X0 X1 X2 X3 p w hn hX hp
  clear hp hX
  go_enter Tryz.func65, Tryz.ntmps65
  go_wp2_with fail
  refine hcall.mono ?_
  rintro e w' ⟨r, rfl, hr, hb⟩
  replace hr := hide hr
  go_wp2
  go_ret
  exact ⟨ret_bool hr.out, hb⟩

def sameS (a b : ByteArray) : Bool := a.toList == b.toList
set_option maxHeartbeats 800000 in
theorem apart1_walk (a1 a2 a3 a4 b1 b2 b3 b4 : Int) (c : Nat) (w : World) (hc : Box4 w c (.int .i64 b1) (.int .i64 b2) (.int .i64 b3) (.int .i64 b4)) :
    Calls Tryz.prog 73 #[.agg #[.int .i64 a1, .int .i64 a2, .int .i64 a3, .int .i64 a4], .pointer (some ⟨c, 0, none⟩)] w fun e w' => e = .returned (.bool (overlapB a1 a2 a3 a4 b1 b2 b3 b4)) ∧ Below w.heap.size w w' := by
  have hlt := hc.lt
  obtain ⟨c0, c1, c2, c3⟩ := hc
  go_enter Tryz.func73, Tryz.ntmps73
  go_wp2_with fail
  refine (tgOverlap_walk _ _ _ _ _ _ _ _ _).mono ?_
  rintro e w' ⟨rfl, hb⟩
  go_wp2
  go_ret
  exact ⟨rfl, ext_trans (by repeat (first | exact Below.refl _ _ | refine ext_alloc ?_ _ | refine ext_drewN ?_ _ | refine ext_drew ?_ | refine ext_trans ?_ (by assumption))) hb⟩
set_option maxHeartbeats 800000 in
theorem apart_walk (A : Option Addr) (n c : Nat) (ts : Nat → T4) (b1 b2 b3 b4 : Int) (w : World) (hn : n ≤ 9223372036854775807)
    (hX : CellsAt w.heap.size w A 4 n fun j => encT (ts j)) :
    Calls Tryz.prog 36 #[.slice A n c, .agg #[.int .i64 b1, .int .i64 b2, .int .i64 b3, .int .i64 b4]] w fun e w' => e = .returned (.bool (!orTo (fun j => overlapB (ts j).1 (ts j).2.1 (ts j).2.2.1 (ts j).2.2.2 b1 b2 b3 b4) n)) ∧ Below w.heap.size w w' := by
  have eg : ∀ args w, (callFunc 73 args).run Tryz.prog w = .ok (.enter 73 args) w := enters_of Tryz.func73 (by kernel_rfl) rfl
  have hb0 : Below w.heap.size w (w.alloc (.cells #[.int .i64 b1, .int .i64 b2, .int .i64 b3, .int .i64 b4] 50)) := ext_alloc (Below.refl _ _) _
  have hcall := conT_walk 73 #[.pointer (some ⟨w.heap.size, 0, none⟩)] eg A n c (fun j => .int .i64 (ts j).1) (fun j => .int .i64 (ts j).2.1) (fun j => .int .i64 (ts j).2.2.1) (fun j => .int .i64 (ts j).2.2.2) (fun j => overlapB (ts j).1 (ts j).2.1 (ts j).2.2.1 (ts j).2.2.2 b1 b2 b3 b4) (w.alloc (.cells #[.int .i64 b1, .int .i64 b2, .int .i64 b3, .int .i64 b4] 50)) hn
    (fun hn' => by obtain ⟨b, off, e, h1, h2⟩ := (hX.below hb0) hn'; exact ⟨b, off, e, by rw [World.size_alloc]; omega, h2⟩)
    (fun W j hj hb => (apart1_walk _ _ _ _ b1 b2 b3 b4 w.heap.size W ((Box4.new w 50 _ _ _ _).later hb)).mono fun e w' ⟨he, hw⟩ => ⟨he, ext_trans hb hw⟩)
  clear hX eg
  obtain ⟨r, hr⟩ : ∃ r, orTo (fun j => overlapB (ts j).1 (ts j).2.1 (ts j).2.2.1 (ts j).2.2.2 b1 b2 b3 b4) n = r := ⟨_, rfl⟩
  rw [hr] at hcall ⊢
  clear hr
  go_enter Tryz.func36, Tryz.ntmps36
  go_wp2_with fail
  refine hcall.mono ?_
  rintro e w' ⟨rfl, hb⟩
  go_wp2
  go_ret
  exact ⟨rfl, ext_trans hb0 hb⟩
end Go.Proofs.YtnbcaklnpflihaaGreatDoor

namespace Go.Proofs.YtnbcaklnpflihaaGreatDoor
open Go.RowKit
set_option maxRecDepth 100000

/-- What the closure has captured: a grid and a number of weeks. -/
abbrev Cl (gb nb : Nat) (d sl b m n : Int) (W : World) : Prop :=
  W.cell? ⟨gb, 0, none⟩ = some (.int .i64 d) ∧ W.cell? ⟨gb, 1, none⟩ = some (.int .i64 sl) ∧ W.cell? ⟨gb, 2, none⟩ = some (.int .i64 b) ∧ W.cell? ⟨gb, 3, none⟩ = some (.int .i64 m) ∧ W.cell? ⟨nb, 0, none⟩ = some (.int .i64 n)
theorem Cl.lt {gb nb : Nat} {d sl b m n : Int} {W : World} (h : Cl gb nb d sl b m n W) : gb < W.heap.size ∧ nb < W.heap.size :=
  ⟨World.block_lt_of_cell? _ _ h.1, World.block_lt_of_cell? _ _ h.2.2.2.2⟩
theorem Cl.later {gb nb : Nat} {d sl b m n : Int} {W W' : World} (h : Cl gb nb d sl b m n W) (hb : Below W.heap.size W W') : Cl gb nb d sl b m n W' :=
  ⟨cell_later hb h.1, cell_later hb h.2.1, cell_later hb h.2.2.1, cell_later hb h.2.2.2.1, cell_later hb h.2.2.2.2⟩
theorem Cl.alloc {gb nb : Nat} {d sl b m n : Int} {W : World} (h : Cl gb nb d sl b m n W) (o : Obj) : Cl gb nb d sl b m n (W.alloc o) := h.later (ext_alloc (Below.refl _ _) _)
theorem Cl.drew {gb nb : Nat} {d sl b m n : Int} {W : World} (h : Cl gb nb d sl b m n W) : Cl gb nb d sl b m n W.drew := h
theorem Cl.only {gb nb g : Nat} {d sl b m n : Int} {W W' : World} (h : Cl gb nb d sl b m n W) (ho : Only g W W') (h1 : gb ≠ g) (h2 : nb ≠ g) : Cl gb nb d sl b m n W' :=
  ⟨(ho.cell h.lt.1 h1).trans h.1, (ho.cell h.lt.1 h1).trans h.2.1, (ho.cell h.lt.1 h1).trans h.2.2.1, (ho.cell h.lt.1 h1).trans h.2.2.2.1, (ho.cell h.lt.2 h2).trans h.2.2.2.2⟩
theorem Cl.set {gb nb c j : Nat} {d sl b m n : Int} {W : World} (h : Cl gb nb d sl b m n W) (h1 : gb ≠ c) (h2 : nb ≠ c) (u : Value) : Cl gb nb d sl b m n (W.setCell ⟨c, j, none⟩ u) := by
  have ho : ∀ (x y : Nat), x ≠ c → (W.setCell ⟨c, j, none⟩ u).cell? ⟨x, y, none⟩ = W.cell? ⟨x, y, none⟩ := fun x y hx => World.cell?_setCell_other _ _ _ _ (fun e => hx (by injection e with e1; exact e1.symm))
  exact ⟨(ho _ _ h1).trans h.1, (ho _ _ h1).trans h.2.1, (ho _ _ h1).trans h.2.2.1, (ho _ _ h1).trans h.2.2.2.1, (ho _ _ h2).trans h.2.2.2.2⟩
/-- The problem behind the fields of a lecturer. -/
def staffP1 (d sl b m n line : Int) (fs : List Fld) : Option Prob :=
  if codeB (textAt fs 0) then probOf line (colAt fs 2) (timesE d sl b m n (partsOf (textAt fs 1))) else some (line, colAt fs 1, 10)
def staffT (d sl b m n : Int) (fs : List Fld) : List T4 := if codeB (textAt fs 0) then (partsOf (textAt fs 1)).map (pieceV d sl b m n) else []
theorem Scan.alloc {w : World} {g : Nat} {line : Int} {F : Option Addr} {m c k : Nat} {pr : Option Prob} (h : Scan w g line F m c k pr) (o : Obj) : Scan (w.alloc o) g line F m c k pr := h.later (ext_alloc (Below.refl _ _) _)
theorem Scan.drew {w : World} {g : Nat} {line : Int} {F : Option Addr} {m c k : Nat} {pr : Option Prob} (h : Scan w g line F m c k pr) : Scan w.drew g line F m c k pr := h.later (ext_drew (Below.refl _ _))
/-- Where the reading of a lecturer stands. -/
structure Stage (B gb nb g : Nat) (d sl b m n line : Int) (F : Option Addr) (fs : List Fld) (c k : Nat) (pr : Option Prob) (W : World) : Prop where
  cl : Cl gb nb d sl b m n W
  scan : Scan W g line F fs.length c k pr
  fields : FieldsAt B W F fs
  std : Std W
theorem Stage.later {B gb nb g : Nat} {d sl b m n line : Int} {F : Option Addr} {fs : List Fld} {c k : Nat} {pr : Option Prob} {W W' : World} (h : Stage B gb nb g d sl b m n line F fs c k pr W) (hB : B ≤ g) (hb : Below W.heap.size W W') : Stage B gb nb g d sl b m n line F fs c k pr W' :=
  ⟨h.cl.later hb, h.scan.later hb, h.fields.below (hb.mono (by have := h.scan.lt; omega)), h.std.after hb⟩
theorem Stage.alloc {B gb nb g : Nat} {d sl b m n line : Int} {F : Option Addr} {fs : List Fld} {c k : Nat} {pr : Option Prob} {W : World} (h : Stage B gb nb g d sl b m n line F fs c k pr W) (hB : B ≤ g) (o : Obj) : Stage B gb nb g d sl b m n line F fs c k pr (W.alloc o) := h.later hB (ext_alloc (Below.refl _ _) _)
theorem Stage.drew {B gb nb g : Nat} {d sl b m n line : Int} {F : Option Addr} {fs : List Fld} {c k : Nat} {pr : Option Prob} {W : World} (h : Stage B gb nb g d sl b m n line F fs c k pr W) (hB : B ≤ g) : Stage B gb nb g d sl b m n line F fs c k pr W.drew := h.later hB (ext_drew (Below.refl _ _))
def pr1 (line : Int) (fs : List Fld) : Option Prob := if codeB (textAt fs 0) then none else some (line, colAt fs 1, 10)
def CodeCut (B gb nb g : Nat) (d sl b m n line : Int) (F : Option Addr) (fs : List Fld) (c : Nat) (W : World) (e : Ending) (w' : World) : Prop :=
  e = .returned (.string (textAt fs 0)) ∧ Cl gb nb d sl b m n w' ∧ Stage B gb nb g d sl b m n line F fs c 1 (pr1 line fs) w' ∧ Only g W w' ∧ W.heap.size ≤ w'.heap.size
def TimesCut (B gb nb g : Nat) (d sl b m n line : Int) (F : Option Addr) (fs : List Fld) (c : Nat) (W : World) (e : Ending) (w' : World) : Prop :=
  ∃ A' q' c' k, e = .returned (.slice A' q' c') ∧ TimesOwn W.heap.size w' (.slice A' q' c') (staffT d sl b m n fs) ∧ Cl gb nb d sl b m n w' ∧ Stage B gb nb g d sl b m n line F fs c k (staffP1 d sl b m n line fs) w' ∧ Only g W w' ∧ W.heap.size ≤ w'.heap.size
theorem code_cut {B gb nb g : Nat} {d sl b m n line : Int} {F : Option Addr} {fs : List Fld} {c : Nat} {W : World} (h1 : gb ≠ g) (h2 : nb ≠ g) (hl : fs.length = 2) (hB : B ≤ g) (hG : 10 ≤ g) (h : Stage B gb nb g d sl b m n line F fs c 0 none W) :
    Calls Tryz.prog 40 #[.pointer (some ⟨g, 0, none⟩)] W fun e w' => CodeCut B gb nb g d sl b m n line F fs c W e w' :=
  (fcode_walk B g line F fs c 0 W h.scan h.fields (by omega) (by omega) hB).mono fun e w' ⟨he, hs, ho⟩ => ⟨he, h.cl.only ho h1 h2, ⟨h.cl.only ho h1 h2, hs, h.fields.only ho hB (by have := h.scan.lt; omega), ho.std h.std hG⟩, ho, ho.size⟩
theorem times_cut {B gb nb g : Nat} {d sl b m n line : Int} {F : Option Addr} {fs : List Fld} {c : Nat} {W : World} (h1 : gb ≠ g) (h2 : nb ≠ g) (hl : fs.length = 2) (hB : B ≤ g) (hG : 10 ≤ g) (hs : (textAt fs 1).size < 1073741824) (h : Stage B gb nb g d sl b m n line F fs c 1 (pr1 line fs) W) :
    Calls Tryz.prog 44 #[.pointer (some ⟨g, 0, none⟩), .agg #[.int .i64 d, .int .i64 sl, .int .i64 b, .int .i64 m], .int .i64 n] W fun e w' => TimesCut B gb nb g d sl b m n line F fs c W e w' := by
  have hsc := h.scan
  unfold pr1 at hsc
  cases hk : codeB (textAt fs 0)
  · rw [hk] at hsc
    refine (ftimes_stop g line F fs.length c 1 _ d sl b m n W hsc).mono fun e w' ⟨he, hb⟩ => ?_
    refine ⟨none, 0, 0, 1, he, ?_, h.cl.later hb, ⟨h.cl.later hb, ?_, (h.later hB hb).fields, h.std.after hb⟩, only_of_below hb _, hb.size⟩
    · unfold staffT; rw [hk]; exact World.ownsRow_nil _ _ _ _
    · unfold staffP1; rw [hk]; exact hsc.later hb
  · rw [hk] at hsc
    refine (ftimes_go B g line F fs c 1 d sl b m n W h.std hsc h.fields (by omega) (by omega) hB hG hs).mono fun e w' ⟨v, he, ht, hs', ho⟩ => ?_
    obtain ⟨A', c', rfl⟩ := owns_form ht
    refine ⟨_, _, _, 2, he, ?_, h.cl.only ho h1 h2, ⟨h.cl.only ho h1 h2, ?_, h.fields.only ho hB (by have := h.scan.lt; omega), ho.std h.std hG⟩, ho, ho.size⟩
    · unfold staffT; rw [hk]; exact ht
    · unfold staffP1; rw [hk]; exact hs'
/-- What stands behind the literal of a lecturer. -/
def LectCut (w : World) (g : Nat) (d sl b m n line : Int) (F : Option Addr) (fs : List Fld) (c _gb _nb : Nat) (s7 : Value) (wx : World) : Prop :=
  ∃ (x k : Nat) (v : Value), s7 = .pointer (some ⟨x, 0, none⟩) ∧ w.heap.size ≤ x ∧ x ≠ g ∧ wx.cell? ⟨x, 0, none⟩ = some (.string (textAt fs 0)) ∧ wx.cell? ⟨x, 1, none⟩ = some v ∧ TimesOwn w.heap.size wx v (staffT d sl b m n fs) ∧ Scan wx g line F fs.length c k (staffP1 d sl b m n line fs) ∧ Only g w wx ∧ v.ownBlock ≠ some x
theorem scan_set {w : World} {g x j : Nat} {line : Int} {F : Option Addr} {m c k : Nat} {pr : Option Prob} {z : ByteArray} {u : Value} (h : Scan w g line F m c k pr) (hx : w.cell? ⟨x, 0, none⟩ = some (.string z)) (hne : x ≠ g) : Scan (w.setCell ⟨x, j, none⟩ u) g line F m c k pr := by
  obtain ⟨v, hg, hp⟩ := h
  refine ⟨v, (Below.heap_setCell w ⟨x, j, none⟩ u g (fun e => hne e.symm)).trans hg, ?_⟩
  cases pr with
  | none => exact hp
  | some p =>
    obtain ⟨y, e, hy⟩ := hp
    refine ⟨y, e, hy.of_block (Below.heap_setCell w ⟨x, j, none⟩ u y (fun e2 => ?_))⟩
    have e3 : y = x := e2
    subst e3
    rw [cell_of_row w y 0 _ _ _ hy] at hx
    simp at hx
theorem owns_set {w : World} {B x j n k : Nat} {e : TypeId} {v u : Value} {xs : List Value} (h : w.ownsRow B e k v n xs) (hx : v.ownBlock ≠ some x) : (w.setCell ⟨x, j, none⟩ u).ownsRow B e k v n xs :=
  h.kept (only_setCell (g := x) (World.grownBy.refl _ _) (Or.inl rfl) u) (.inr hx)
theorem lect_set {W0 w2 : World} {g gb nb x : Nat} {d sl b m n line : Int} {F : Option Addr} {fs : List Fld} {c k B B2 : Nat} {v u0 : Value} (hst : Stage B gb nb g d sl b m n line F fs c k (staffP1 d sl b m n line fs) w2) (ht : TimesOwn B2 w2 v (staffT d sl b m n fs)) (hB2 : W0.heap.size ≤ B2) (hx2 : x < B2)
    (ho : Only g W0 w2) (hg : g < W0.heap.size) (hx : W0.heap.size ≤ x) (c0 : w2.cell? ⟨x, 0, none⟩ = some (.string ⟨#[]⟩)) (c1 : w2.cell? ⟨x, 1, none⟩ = some u0) :
    LectCut W0 g d sl b m n line F fs c gb nb (.pointer (some ⟨x, 0, none⟩)) ((w2.setCell ⟨x, 0, none⟩ (.string (textAt fs 0))).setCell ⟨x, 1, none⟩ v) := by
  have hne : v.ownBlock ≠ some x := fun e => by have := (ht.lt _ e).1; omega
  have s0 : (w2.setCell ⟨x, 0, none⟩ (.string (textAt fs 0))).cell? ⟨x, 0, none⟩ = some (.string (textAt fs 0)) := World.cell?_setCell_same _ _ _ c0
  have s1 : (w2.setCell ⟨x, 0, none⟩ (.string (textAt fs 0))).cell? ⟨x, 1, none⟩ = some u0 := (World.cell?_setCell_other _ _ _ _ (by simp)).trans c1
  refine ⟨x, k, v, rfl, hx, by omega, ?_, ?_, owns_lower (owns_set (owns_set ht hne) hne) hB2, scan_set (scan_set hst.scan c0 (by omega)) s0 (by omega), only_setCell (only_setCell ho (Or.inr hx) _) (Or.inr hx) _, hne⟩
  · exact (World.cell?_setCell_other _ _ _ _ (by simp)).trans s0
  · exact World.cell?_setCell_same _ _ _ s1
theorem only_a {g : Nat} {W0 w1 w2 : World} (h1 : Only g W0.drew w1) (h2 : Only g w1 w2) : Only g W0 w2 := (Only.later (Only.refl g W0) (ext_drew (Below.refl _ _))).trans (h1.trans h2)
theorem only_b {g : Nat} {W0 w1 w2 : World} {o : Obj} (h1 : Only g W0.drew w1) (h2 : Only g (w1.alloc o) w2) : Only g W0 w2 := (Only.later (only_a h1 (Only.refl _ _)) (ext_alloc (Below.refl _ _) _)).trans h2
theorem only_c {g : Nat} {W0 w1 w2 : World} {o : Obj} (h1 : Only g (W0.alloc o).drew w1) (h2 : Only g w1 w2) : Only g W0 w2 := (Only.later (Only.refl g W0) (ext_drew (ext_alloc (Below.refl _ _) _))).trans (h1.trans h2)
theorem CellsAt.more {B C k n : Nat} {w : World} {A : Option Addr} {X : Nat → List Value} (h : CellsAt B w A k n X) (hB : B ≤ C) : CellsAt C w A k n X := by
  intro hn
  obtain ⟨b, off, e, h1, hc⟩ := h hn
  exact ⟨b, off, e, by omega, hc⟩
/-- The problem of the record of a lecturer, behind q others. -/
def staffP (d sl b m n line : Int) (fs : List Fld) (codes : Nat → ByteArray) (q : Nat) : Option Prob :=
  noted (noted (staffP1 d sl b m n line fs) (orTo (fun j => sameS (codes j) (textAt fs 0)) q) (line, 0, 11)) (decide ((32 : Int) ≤ q)) (line, 0, 2)
def OneGives (g : Nat) (d sl b m n line : Int) (F : Option Addr) (fs : List Fld) (c : Nat) (codes : Nat → ByteArray) (q : Nat) (w : World) (e : Ending) (w' : World) : Prop :=
  ∃ (v : Value) (k : Nat), e = .returned (.agg #[.string (textAt fs 0), v]) ∧ TimesOwn w.heap.size w' v (staffT d sl b m n fs) ∧ Scan w' g line F fs.length c k (staffP d sl b m n line fs codes q) ∧ Only g w w'
end Go.Proofs.YtnbcaklnpflihaaGreatDoor

namespace Go.Proofs.YtnbcaklnpflihaaGreatDoor
open Go.RowKit
set_option maxRecDepth 100000

def dayB (k : Nat) : ByteArray := dayNames.getD k ByteArray.empty
theorem dayB_size (k : Nat) : (dayB k).size ≤ 2 := by
  unfold dayB
  match k with
  | 0 | 1 | 2 | 3 | 4 | 5 | 6 => decide
  | k + 7 => simp [dayNames]
/-- The text of a time: day and slots. -/
def slotT (p q : Nat) : List UInt8 := dec2 (p + 1) ++ if 1 < q then 45 :: dec2 (p + q) else []
def timeT (n x1 k p q : Nat) : List UInt8 := (dayB k).data.toList ++ 32 :: slotT p q ++ if x1 = 2 ^ n - 1 then [] else 32 :: formatL x1 n
/-- What Format returns. -/
def fmtT (d s b m n x1 x2 x3 x4 : Int) : List UInt8 × Int := if fitsV d s b m n x1 x2 x3 x4 = 0 then (timeT n.toNat x1.toNat x2.toNat x3.toNat x4.toNat, 0) else ([], fitsV d s b m n x1 x2 x3 x4)
structure FitsB (d s n x1 x2 x3 x4 : Int) : Prop where
  n1 : 1 ≤ n
  n2 : n ≤ 20
  v : validB x1 n = true
  w1 : 1 ≤ x1
  d1 : 0 ≤ x2
  d2 : x2 < 7
  d3 : x2 < d
  s1 : 0 ≤ x3
  l1 : 1 ≤ x4
  s2 : x3 + x4 ≤ 24
  s3 : x3 + x4 ≤ s
theorem fits_parts {d s b m n x1 x2 x3 x4 : Int} (h : fitsV d s b m n x1 x2 x3 x4 = 0) : weekB d s b m n = true ∧ FitsB d s n x1 x2 x3 x4 := by
  unfold fitsV at h
  cases hw : weekB d s b m n
  · rw [if_pos hw] at h; omega
  · rw [if_neg (by simp [hw])] at h
    by_cases hc : soundB x1 x2 x3 x4 = false ∨ validB x1 n = false ∨ d ≤ x2 ∨ s < x3 + x4
    · rw [if_pos hc] at h; omega
    · have hn : 1 ≤ n ∧ n ≤ 20 := by
        simp only [weekB, Bool.and_eq_true, decide_eq_true_eq] at hw; exact hw.2
      have hs : soundB x1 x2 x3 x4 = true := by
        cases hx : soundB x1 x2 x3 x4
        · exact absurd (Or.inl hx) hc
        · rfl
      have hv : validB x1 n = true := by
        cases hx : validB x1 n
        · exact absurd (Or.inr (Or.inl hx)) hc
        · rfl
      obtain ⟨⟨a1, -⟩, a2, a3, a4, a5, a6⟩ := soundB_parts hs
      exact ⟨rfl, hn.1, hn.2, hv, a1, a2, a3, by omega, a4, a5, a6, by omega⟩
abbrev HeldF (K : Nat) (x1 x2 x3 x4 : Int) (w0 W : World) : Prop := W.cell? ⟨K, 0, none⟩ = some (.int .i64 x1) ∧ W.cell? ⟨K, 1, none⟩ = some (.int .i64 x2) ∧ W.cell? ⟨K, 2, none⟩ = some (.int .i64 x3) ∧ W.cell? ⟨K, 3, none⟩ = some (.int .i64 x4) ∧ Below w0.heap.size w0 W
theorem HeldF.later {K : Nat} {x1 x2 x3 x4 : Int} {w0 W W' : World} (h : HeldF K x1 x2 x3 x4 w0 W) (hb : Below W.heap.size W W') : HeldF K x1 x2 x3 x4 w0 W' :=
  ⟨cell_later hb h.1, cell_later hb h.2.1, cell_later hb h.2.2.1, cell_later hb h.2.2.2.1, ext_trans h.2.2.2.2 hb⟩
theorem keepF {P : Program} {f : FuncId} {args : Array Value} {v : Value} {K : Nat} {x1 x2 x3 x4 : Int} {w0 W : World} (h : HeldF K x1 x2 x3 x4 w0 W) (hc : Calls P f args W fun e w' => e = .returned v ∧ Below W.heap.size W w') :
    Calls P f args W fun e w' => e = .returned v ∧ HeldF K x1 x2 x3 x4 w0 w' := hc.mono fun _ _ ⟨he, hb⟩ => ⟨he, h.later hb⟩
theorem itoa_below (a : Int) (h0 : 0 ≤ a) (h1 : a < 100) (w : World) :
    Calls Tryz.prog 23 #[.int .i64 a] w fun e w' => e = .returned (.string ⟨(dec2 a.toNat).toArray⟩) ∧ Below w.heap.size w w' :=
  (itoa_walk a h0 h1 w).mono fun _ _ ⟨he, hw⟩ => ⟨he, by rw [hw]; exact Below.refl _ _⟩
theorem nameB_walk (k : Nat) (hk : k < 7) (w : World) :
    Calls Tryz.prog 91 #[.int .i64 (k : Int)] w fun e w' => e = .returned (.string (dayB k)) ∧ Below w.heap.size w w' := name_walk k hk w
theorem ret_sv {a : ByteArray} {l : List UInt8} {k : IntKind} {c : Int} (h : a.data.toList = l) : Ending.returned (.tuple #[.string a, .int k c]) = .returned (.tuple #[.string ⟨l.toArray⟩, .int k c]) := by
  subst h; rfl
theorem timeT_eq (n x1 k p q : Nat) (A B : List UInt8) (hA : (if 1 < q then 45 :: dec2 (p + q) else []) = A) (hB : (if x1 = 2 ^ n - 1 then [] else 32 :: formatL x1 n) = B) : timeT n x1 k p q = (dayB k).data.toList ++ 32 :: (dec2 (p + 1) ++ A) ++ B := by
  unfold timeT slotT; rw [hA, hB]
set_option maxHeartbeats 8000000 in
theorem tgFormat_walk (d s b m n x1 x2 x3 x4 : Int) (w : World) :
    Calls Tryz.prog 57 #[.agg #[.int .i64 d, .int .i64 s, .int .i64 b, .int .i64 m], .int .i64 n, .agg #[.int .i64 x1, .int .i64 x2, .int .i64 x3, .int .i64 x4]] w fun e w' => e = .returned (.tuple #[.string ⟨(fmtT d s b m n x1 x2 x3 x4).1.toArray⟩, .int .i64 (fmtT d s b m n x1 x2 x3 x4).2]) ∧ Below w.heap.size w w' := by
  by_cases hfit : fitsV d s b m n x1 x2 x3 x4 = 0
  · obtain ⟨hwk, hF⟩ := fits_parts hfit
    rw [show fmtT d s b m n x1 x2 x3 x4 = (timeT n.toNat x1.toNat x2.toNat x3.toNat x4.toNat, 0) from if_pos hfit]
    obtain ⟨n1, n2, hv, w1, d1, d2, d3, s1, l1, s2, s3⟩ := hF
    replace hfit := hide hfit
    obtain ⟨N, rfl⟩ := Int.eq_ofNat_of_zero_le (by omega : 0 ≤ n)
    obtain ⟨a, rfl⟩ := Int.eq_ofNat_of_zero_le (by omega : 0 ≤ x1)
    obtain ⟨k, rfl⟩ := Int.eq_ofNat_of_zero_le d1
    obtain ⟨p, rfl⟩ := Int.eq_ofNat_of_zero_le s1
    obtain ⟨q, rfl⟩ := Int.eq_ofNat_of_zero_le (by omega : 0 ≤ x4)
    simp only [Int.toNat_natCast]
    have hds := dayB_size k
    have l1' := dec2_len (p + 1)
    have l2' := dec2_len (p + q)
    have hH : HeldF (w.heap.size + 1) (a : Int) k p q w ((w.alloc (.cells #[.int .i64 d, .int .i64 s, .int .i64 b, .int .i64 m] 24)).alloc (.cells #[.int .i64 a, .int .i64 k, .int .i64 p, .int .i64 q] 50)) :=
      ⟨by simp, by simp, by simp, by simp, (by repeat (first | exact Below.refl _ _ | refine ext_alloc ?_ _ | refine ext_drewN ?_ _ | refine ext_drew ?_ | refine ext_trans ?_ (by assumption)))⟩
    obtain ⟨W0, hW0⟩ : ∃ W0, (w.alloc (.cells #[.int .i64 d, .int .i64 s, .int .i64 b, .int .i64 m] 24)).alloc (.cells #[.int .i64 a, .int .i64 k, .int .i64 p, .int .i64 q] 50) = W0 := ⟨_, rfl⟩
    rw [hW0] at hH
    replace hW0 := hide hW0
    go_enter Tryz.func57, Tryz.ntmps57
    go_wp2_with fail
    refine (tgFits_walk _ _ _ _ _ _ _ _ _ _).mono ?_
    rintro e w1 ⟨rfl, hb1⟩
    rw [hfit.out]
    rw [hW0.out] at hb1
    replace hH := hH.later hb1
    clear hb1
    obtain ⟨a0, a1, a2, a3, hb⟩ := id hH
    go_upto_region 4 with fail
    have hwr : IntKind.i64.wrap ((p : Int) + 1) = (p : Int) + 1 := IntWalk.i64_in _ (by omega)
    have hc1 : (9223372036854775807 < (dayB k).size + 1) = False := eq_false (by omega)
    have hc2 : (9223372036854775807 < (dayB k).size + 1 + (dec2 (p + 1)).length) = False := eq_false (by omega)
    go_cut [9] (fun s9 wx => s9 = .string (dayB k ++ ⟨#[32]⟩ ++ ⟨(dec2 (p + 1)).toArray⟩) ∧ HeldF (w.heap.size + 1) (a : Int) k p q w wx)
    case first =>
      go_region_held3 (fun W => W.cell? ⟨w.heap.size + 1, 0, none⟩ = some (.int .i64 a) ∧ W.cell? ⟨w.heap.size + 1, 1, none⟩ = some (.int .i64 k) ∧ W.cell? ⟨w.heap.size + 1, 2, none⟩ = some (.int .i64 p) ∧ W.cell? ⟨w.heap.size + 1, 3, none⟩ = some (.int .i64 q) ∧ Below w.heap.size w W) (first | with_reducible assumption | exact HeldF.later (by with_reducible assumption) (ext_drew (Below.refl _ _))) (first | (go_at_call 91; refine (keepF (by with_reducible assumption) (nameB_walk k (by omega) _)).mono ?_; rintro e w' ⟨rfl, hs⟩) | (go_at_call 23; refine (keepF (by with_reducible assumption) (itoa_below _ (by omega) (by omega) _)).mono ?_; rintro e w' ⟨rfl, hs⟩; rw [show ((p : Int) + 1).toNat = p + 1 from by omega]))
      all_goals
        go_wp2_with fail
        go_meet
        exact ⟨rfl, by with_reducible assumption⟩
    case rest =>
      clear hwr hc1 hc2 a0 a1 a2 a3 hb hH
      obtain ⟨rfl, hH⟩ := hcut
      obtain ⟨a0, a1, a2, a3, hb⟩ := id hH
      obtain ⟨pe1, pe2, pe3, pe4⟩ := pow_facts2 N (by omega) (by omega)
      have ha := validB_iff.1 hv
      have haN : a < 2 ^ N := by
        have h3 := ha.2.2.2
        rw [Int.toNat_natCast] at h3
        exact_mod_cast h3
      clear ha
      obtain ⟨D, hD⟩ : ∃ D, dayB k = D := ⟨_, rfl⟩
      rw [hD] at hds
      rw [hD]
      replace hD := hide hD
      have hfm : Hid (∀ w : World, Calls Tryz.prog 92 #[.int .i64 a, .int .i64 N] w fun e w' => e = .returned (.tuple #[.string ⟨(formatL a N).toArray⟩, .int .i64 0]) ∧ Below w.heap.size w w') := fun w => by
        have := wsFormat_walk a N w
        rw [show fmtV (a : Int) (N : Int) = (formatL a N, 0) from by unfold fmtV; rw [if_pos hv, Int.toNat_natCast, Int.toNat_natCast]] at this
        exact this
      have hfl := formatL_len a N (by omega)
      by_cases hq : 1 < q
      all_goals by_cases hall : a = 2 ^ N - 1
      · have hfin := hide (timeT_eq N a k p q _ _ (if_pos hq) (if_pos hall))
        have hx : ((a : Int) != ((2 ^ N - 1 : Nat) : Int)) = false := by rw [hall]; simp
        replace hall := hide hall
        clear a0 a1 a2 a3 hb
        obtain ⟨a0, a1, a2, a3, hb⟩ := id hH
        go_wp2_with fail
        refine (keepF hH (itoa_below _ (by omega) (by omega) _)).mono ?_
        rintro e w2 ⟨rfl, hH2⟩
        rw [show ((p : Int) + (q : Int)).toNat = p + q from by omega]
        clear a0 a1 a2 a3 hb hH
        obtain ⟨a0, a1, a2, a3, hb⟩ := id hH2
        go_wp2_with fail
        go_quiet (fail)
        go_wp2_with fail
        go_ret2
        refine ⟨?_, ext_drewN hb _⟩
        rw [hfin.out, hD.out]
        exact ret_sv (by simp [ByteArray.data_append])
      · have hfin := hide (timeT_eq N a k p q _ _ (if_pos hq) (if_neg hall))
        have hx : ((a : Int) != ((2 ^ N - 1 : Nat) : Int)) = true := by rw [bne_iff_ne]; omega
        replace hall := hide hall
        clear a0 a1 a2 a3 hb
        obtain ⟨a0, a1, a2, a3, hb⟩ := id hH
        go_wp2_with fail
        refine (keepF hH (itoa_below _ (by omega) (by omega) _)).mono ?_
        rintro e w2 ⟨rfl, hH2⟩
        rw [show ((p : Int) + (q : Int)).toNat = p + q from by omega]
        clear a0 a1 a2 a3 hb hH
        obtain ⟨a0, a1, a2, a3, hb⟩ := id hH2
        go_wp2_with fail
        go_quiet (fail)
        go_wp2_with fail
        refine (hfm.out _).mono ?_
        rintro e w3 ⟨rfl, hb3⟩
        go_wp2_with fail
        go_ret2
        refine ⟨?_, ext_trans (ext_drewN hb _) hb3⟩
        rw [hfin.out, hD.out]
        exact ret_sv (by simp [ByteArray.data_append])
      · have hfin := hide (timeT_eq N a k p q _ _ (if_neg hq) (if_pos hall))
        have hq' : q ≤ 1 := by omega
        have hx : ((a : Int) != ((2 ^ N - 1 : Nat) : Int)) = false := by rw [hall]; simp
        replace hall := hide hall
        clear a0 a1 a2 a3 hb
        obtain ⟨a0, a1, a2, a3, hb⟩ := id hH
        go_wp2_with fail
        go_quiet (fail)
        go_wp2_with fail
        go_ret2
        refine ⟨?_, ext_drewN hb _⟩
        rw [hfin.out, hD.out]
        exact ret_sv (by simp [ByteArray.data_append])
      · have hfin := hide (timeT_eq N a k p q _ _ (if_neg hq) (if_neg hall))
        have hq' : q ≤ 1 := by omega
        have hx : ((a : Int) != ((2 ^ N - 1 : Nat) : Int)) = true := by rw [bne_iff_ne]; omega
        replace hall := hide hall
        clear a0 a1 a2 a3 hb
        obtain ⟨a0, a1, a2, a3, hb⟩ := id hH
        go_wp2_with fail
        go_quiet (fail)
        go_wp2_with fail
        refine (hfm.out _).mono ?_
        rintro e w3 ⟨rfl, hb3⟩
        go_wp2_with fail
        go_ret2
        refine ⟨?_, ext_trans (ext_drewN hb _) hb3⟩
        rw [hfin.out, hD.out]
        exact ret_sv (by simp [ByteArray.data_append])
  · rw [show fmtT d s b m n x1 x2 x3 x4 = ([], fitsV d s b m n x1 x2 x3 x4) from if_neg hfit]
    have hne : (fitsV d s b m n x1 x2 x3 x4 != 0) = true := by simpa using hfit
    replace hfit := hide hfit
    go_enter Tryz.func57, Tryz.ntmps57
    go_wp2_with fail
    refine (tgFits_walk _ _ _ _ _ _ _ _ _ _).mono ?_
    rintro e w1 ⟨rfl, hb1⟩
    go_wp2
    go_ret2
    exact ⟨rfl, (by repeat (first | exact Below.refl _ _ | refine ext_alloc ?_ _ | refine ext_drewN ?_ _ | refine ext_drew ?_ | refine ext_trans ?_ (by assumption)))⟩
end Go.Proofs.YtnbcaklnpflihaaGreatDoor
