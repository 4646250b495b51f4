/- Walk of fields.Scanner.Times. Conditions: the scanner's cells are as Scan says; texts shorter than 2^30 bytes. -/
import Derived.Test.YtgbkochjoaalhaaGreatDoorFieldsB
import Derived.Test.YtgbkochjoaalhaaGreatDoorTwo
import Derived.Test.YtgbkochjoaalhaaGreatDoorWsE
namespace Go.Proofs.YtgbkochjoaalhaaGreatDoor
open Go.RowKit
set_option maxRecDepth 100000

abbrev T4 := Int × Int × Int × Int
def encT (t : T4) : List Value := [.int .i64 t.1, .int .i64 t.2.1, .int .i64 t.2.2.1, .int .i64 t.2.2.2]
/-- Times, in memory of their own. -/
def TimesOwn (B : Nat) (w : World) (v : Value) (ts : List T4) : Prop := w.ownsRow B 43 4 v ts.length (ts.flatMap encT)
theorem infoTime : (Tryz.prog.info? 43).map (fun i => (i.zero, i.size, i.bytes)) = some (some (.agg #[.int .i64 0, .int .i64 0, .int .i64 0, .int .i64 0]), 4, 32) := by kernel_rfl
theorem owns_lower {w : World} {B C : Nat} {e : TypeId} {k n : Nat} {v : Value} {xs : List Value} (h : w.ownsRow B e k v n xs) (hc : C ≤ B) : w.ownsRow C e k v n xs := by
  refine ⟨h.1, ?_⟩
  rcases h.2 with h0 | ⟨g, cap, cur, e1, hb, r⟩
  · exact .inl h0
  · exact .inr ⟨g, cap, cur, e1, by omega, r⟩
theorem owns_later {w w' : World} {B : Nat} {e : TypeId} {k n : Nat} {v : Value} {xs : List Value} (h : w.ownsRow B e k v n xs) (hb : Below w.heap.size w w') : w'.ownsRow B e k v n xs :=
  h.kept (row := none) ⟨hb.os, hb.tape, hb.output, hb.size, fun k hk _ => hb.block k hk⟩ (by cases v.ownBlock <;> simp)
theorem owns_only {w w' : World} {B g : Nat} {e : TypeId} {k n : Nat} {v : Value} {xs : List Value} (h : w.ownsRow B e k v n xs) (hb : Only g w w') (hg : g < B) : w'.ownsRow B e k v n xs :=
  h.kept hb (by
    cases hv : v.ownBlock with
    | none => exact .inl rfl
    | some x =>
      refine .inr fun e => ?_
      injection e with e
      have := (h.lt x hv).1
      omega)
/-- What a piece of a list of times is read as. -/
def pieceT (d sl b m n : Int) (z : ByteArray) : Int × Int × Int × Int × Int := parseT d sl b m n (Lib.splitB ⟨#[32]⟩ 0 (Lib.countB z ⟨#[32]⟩) z)
def pieceV (d sl b m n : Int) (z : ByteArray) : T4 := ((pieceT d sl b m n z).1, (pieceT d sl b m n z).2.1, (pieceT d sl b m n z).2.2.1, (pieceT d sl b m n z).2.2.2.1)
def pieceE (d sl b m n : Int) (z : ByteArray) : Int := (pieceT d sl b m n z).2.2.2.2
/-- The first error of pieces, 0 if there is none. -/
def firstE (f : ByteArray → Int) : List ByteArray → Int
  | [] => 0
  | z :: r => if f z = 0 then firstE f r else f z
theorem firstE_snoc (f : ByteArray → Int) (z : ByteArray) : ∀ l, firstE f (l ++ [z]) = if firstE f l = 0 then f z else firstE f l
  | [] => by simp only [List.nil_append, firstE]; by_cases h : f z = 0 <;> simp [h]
  | x :: l => by
    simp only [List.cons_append, firstE]
    by_cases h : f x = 0
    · simp only [h, if_true]; exact firstE_snoc f z l
    · simp only [h, if_false]
def probOf (line col e : Int) : Option Prob := if e = 0 then none else some (line, col, e)
theorem noted_prob (line col a e : Int) : noted (probOf line col a) (decide (e ≠ 0)) (line, col, e) = probOf line col (if a = 0 then e else a) := by
  unfold probOf
  by_cases h : a = 0
  · by_cases h' : e = 0
    · simp [h, h', noted]
    · simp [h, h', noted]
  · simp [h, noted]
/-- The error of a list of times. -/
def timesE (d sl b m n : Int) (zs : List ByteArray) : Int := if firstE (pieceE d sl b m n) zs = 0 then (if 24 < zs.length then 2 else 0) else firstE (pieceE d sl b m n) zs
def TimesGives (w : World) (g : Nat) (line col : Int) (F : Option Addr) (q c k : Nat) (ts : List T4) (er : Int) (e : Ending) (w' : World) : Prop :=
  ∃ v, e = .returned v ∧ TimesOwn w.heap.size w' v ts ∧ Scan w' g line F q c k (probOf line col er) ∧ Only g w w'
theorem len_flatT (ts : List T4) : (ts.flatMap encT).length = ts.length * 4 := by
  induction ts with
  | nil => rfl
  | cons t r ih => simp [ih, encT]; omega
theorem flatT_snoc (ts : List T4) (t : T4) : (ts ++ [t]).flatMap encT = ts.flatMap encT ++ encT t := by simp
theorem Box4.only {w w' : World} {g b : Nat} {x0 x1 x2 x3 : Value} (h : Box4 w b x0 x1 x2 x3) (ho : Only g w w') (hne : b ≠ g) : Box4 w' b x0 x1 x2 x3 := by
  have hlt := h.lt
  exact ⟨(ho.cell hlt hne).trans h.c0, (ho.cell hlt hne).trans h.c1, (ho.cell hlt hne).trans h.c2, (ho.cell hlt hne).trans h.c3⟩

theorem partsOf_len (s : ByteArray) : (partsOf s).length ≤ s.size + 1 := by
  unfold partsOf
  split
  · simp
  · rw [splitB_len]
    have := Lib.countB_le ⟨#[59]⟩ (Nat.le_refl 1) _ s (Nat.le_refl _)
    omega
theorem partsOf_mem (s : ByteArray) : ∀ z ∈ partsOf s, z.size ≤ s.size := by
  unfold partsOf
  split
  · intro z hz; cases hz
  · intro z hz; exact splitB_mem rfl hz
theorem PcsAt.only {w w' : World} {base g : Nat} {A : Option Addr} {zs : List ByteArray} (h : PcsAt w base A zs) (ho : Only g w w') (hg : g < base) : PcsAt w' base A zs := by
  intro hn
  obtain ⟨b, e, h1, h2, hc⟩ := h hn
  exact ⟨b, e, h1, Nat.lt_of_lt_of_le h2 ho.size, fun j z hz => (ho.cell h2 (by omega)).trans (hc j z hz)⟩
theorem take_map {α β : Type} (f : α → β) (l : List α) (j : Nat) (z : α) (h : l[j]? = some z) : (l.take (j + 1)).map f = (l.take j).map f ++ [f z] := by
  rw [List.take_add_one, h]; simp
theorem take_first (f : ByteArray → Int) (l : List ByteArray) (j : Nat) (z : ByteArray) (h : l[j]? = some z) : firstE f (l.take (j + 1)) = if firstE f (l.take j) = 0 then f z else firstE f (l.take j) := by
  rw [List.take_add_one, h]; exact firstE_snoc f z _
theorem one_times (t : T4) : ∀ u ∈ encT t, u.oneCell' = true := by
  intro u hu; simp [encT] at hu; rcases hu with rfl | rfl | rfl | rfl <;> rfl

set_option maxHeartbeats 4000000 in
theorem ftimes_stop (g : Nat) (line : Int) (F : Option Addr) (q c k : Nat) (p : Prob) (d sl b m n : Int) (w : World) (h : Scan w g line F q c k (some p)) :
    Calls Tryz.prog 83 #[.pointer (some ⟨g, 0, none⟩), .agg #[.int .i64 d, .int .i64 sl, .int .i64 b, .int .i64 m], .int .i64 n] w fun e w' => e = .returned (.slice none 0 0) ∧ Below w.heap.size w w' := by
  have hp : Calls Tryz.prog 116 #[.pointer (some ⟨g, 0, none⟩), .string ⟨#[59]⟩] (w.alloc (.cells #[.int .i64 d, .int .i64 sl, .int .i64 b, .int .i64 m] 24)) fun e w' => e = .returned (.slice none 0 0) ∧ w.alloc (.cells #[.int .i64 d, .int .i64 sl, .int .i64 b, .int .i64 m] 24) = w' := by
    have h' := h.later (ext_alloc (Below.refl _ _) (.cells #[.int .i64 d, .int .i64 sl, .int .i64 b, .int .i64 m] 24))
    go_enter Tryz.func116, Tryz.ntmps116
    go_wp2_with fail
    refine (fnext_stop g line F q c k p _ h').mono ?_
    rintro e w1 ⟨rfl, rfl⟩
    go_wp2
    go_ret
    exact ⟨rfl, rfl⟩
  go_enter Tryz.func83, Tryz.ntmps83
  go_wp2_with fail
  refine hp.mono ?_
  rintro e w1 ⟨rfl, rfl⟩
  go_wp2
  refine wp_loop_rounds 1 ?_
  rw [rounds_succ]
  go_wp2
  go_ret
  exact ⟨rfl, (by repeat (first | exact Below.refl _ _ | refine ext_alloc ?_ _ | refine ext_drewN ?_ _ | refine ext_drew ?_ | refine ext_trans ?_ (by assumption)))⟩

theorem new_four (w : World) (a b c d : Int) (t : TypeId) : ∀ (j : Nat) (u : Value), (encT (a, b, c, d))[j]? = some u → (w.alloc (.cells #[.int .i64 a, .int .i64 b, .int .i64 c, .int .i64 d] t)).cell? ((⟨w.heap.size, 0, none⟩ : Addr).add j) = some u := by
  intro j u hu
  match j, hu with
  | 0, hu => simp [encT] at hu; subst hu; simp [Addr.add]
  | 1, hu => simp [encT] at hu; subst hu; simp [Addr.add]
  | 2, hu => simp [encT] at hu; subst hu; simp [Addr.add]
  | 3, hu => simp [encT] at hu; subst hu; simp [Addr.add]
  | j + 4, hu => simp [encT] at hu
theorem owns_form {w : World} {B : Nat} {e : TypeId} {k n : Nat} {v : Value} {xs : List Value} (h : w.ownsRow B e k v n xs) : ∃ A c, v = .slice A n c := by
  rcases h.2 with ⟨h1, h2⟩ | ⟨g, cap, cur, h1, _⟩
  · subst h2; exact ⟨none, 0, h1⟩
  · exact ⟨_, _, h1⟩
theorem own_far {w : World} {B g : Nat} {e : TypeId} {k n : Nat} {v : Value} {xs : List Value} (h : w.ownsRow B e k v n xs) (hg : g < B) : some g ≠ v.ownBlock := by
  intro e
  have := (h.lt g e.symm).1
  omega
theorem own_high {w : World} {B C : Nat} {e : TypeId} {k n : Nat} {v : Value} {xs : List Value} (h : w.ownsRow B e k v n xs) (hc : C ≤ B) : ∀ x, v.ownBlock = some x → C ≤ x := by
  intro x e
  have := (h.lt x e).1
  omega
theorem Scan.grown {w w' : World} {g : Nat} {line : Int} {F : Option Addr} {m c k : Nat} {pr : Option Prob} {e : TypeId} {B s n : Nat} {v : Value} {xs : List Value} (h : Scan w g line F m c k pr) (ho : w.ownsRow B e s v n xs) (hb : w.grownBy w' v.ownBlock) (hg : some g ≠ v.ownBlock) (hne : e ≠ 76) : Scan w' g line F m c k pr := by
  obtain ⟨u, hgg, hp⟩ := h
  refine ⟨u, (hb.block g (blk_lt hgg) hg).trans hgg, ?_⟩
  cases pr with
  | none => exact hp
  | some p =>
    obtain ⟨x, e1, hx⟩ := hp
    refine ⟨x, e1, hx.of_block (hb.block x (blk_lt hx) fun e2 => ?_)⟩
    rcases ho.2 with ⟨rfl, _⟩ | ⟨g', cap, cur, rfl, _, hh, _⟩
    · simp [Value.ownBlock] at e2
    · have e3 : x = g' := by simpa [Value.ownBlock] using e2
      subst e3
      unfold ProbAt at hx
      rw [hx] at hh
      injection hh with hh
      injection hh with _ ht
      exact hne ht.symm
theorem Only.trans_own {g : Nat} {a b c : World} {v : Value} (h : Only g a b) (k : b.grownBy c v.ownBlock) (hv : ∀ x, v.ownBlock = some x → a.heap.size ≤ x) : Only g a c :=
  ⟨k.os.trans h.os, k.tape.trans h.tape, k.output.trans h.output, Nat.le_trans h.size k.size, fun i hi hne => (k.block i (Nat.lt_of_lt_of_le hi h.size) (fun e => by have := hv i e.symm; omega)).trans (h.block i hi hne)⟩
theorem tgParse_at {d sl b m n : Int} {z : ByteArray} {x1 x2 x3 x4 er : Int} (hT : pieceT d sl b m n z = (x1, x2, x3, x4, er)) (hs : z.size < 1073741824) (w : World) (hS : Std w) :
    Calls Tryz.prog 26 #[.agg #[.int .i64 d, .int .i64 sl, .int .i64 b, .int .i64 m], .int .i64 n, .string z] w fun e w' => e = .returned (.tuple #[.agg #[.int .i64 x1, .int .i64 x2, .int .i64 x3, .int .i64 x4], .int .i64 er]) ∧ Below w.heap.size w w' := by
  have := tgParse_walk d sl b m n z hs w hS
  unfold pieceT at hT
  rw [hT] at this
  exact this
def TimesLoop (d sl b m n : Int) (zs : List ByteArray) (B : Nat) (w1 : World) (g : Nat) (line col : Int) (F : Option Addr) (q c k : Nat) (v i : Value) (wr : World) : Prop :=
  ∃ j : Nat, j ≤ zs.length ∧ i = .int .i64 j ∧ TimesOwn B wr v ((zs.take j).map (pieceV d sl b m n)) ∧ Scan wr g line F q c k (probOf line col (firstE (pieceE d sl b m n) (zs.take j))) ∧ Only g w1 wr
set_option maxHeartbeats 4000000 in
theorem ftimes_go (B g : Nat) (line : Int) (F : Option Addr) (fs : List Fld) (c k : Nat) (d sl b m n : Int) (w : World) (hS : Std w) (h : Scan w g line F fs.length c k none) (hF : FieldsAt B w F fs) (h2 : k < fs.length) (hm : fs.length ≤ 1000) (hB : B ≤ g) (hG : 11 ≤ g)
    (hs : (textAt fs k).size < 1073741824) :
    Calls Tryz.prog 83 #[.pointer (some ⟨g, 0, none⟩), .agg #[.int .i64 d, .int .i64 sl, .int .i64 b, .int .i64 m], .int .i64 n] w fun e w' =>
      TimesGives w g line (colAt fs (k + 1)) F fs.length c (k + 1) ((partsOf (textAt fs k)).map (pieceV d sl b m n)) (timesE d sl b m n (partsOf (textAt fs k))) e w' := by
  obtain ⟨zs, hz⟩ : ∃ zs, partsOf (textAt fs k) = zs := ⟨_, rfl⟩
  have hzl : zs.length ≤ 1073741825 := by have := partsOf_len (textAt fs k); rw [hz] at this; omega
  have hzm : ∀ z ∈ zs, z.size < 1073741824 := by have := partsOf_mem (textAt fs k); rw [hz] at this; intro z h; have := this z h; omega
  rw [hz]
  have hlt := h.lt
  obtain ⟨col, hcol⟩ : ∃ col, colAt fs (k + 1) = col := ⟨_, rfl⟩
  rw [hcol]
  replace hcol := hide hcol
  obtain ⟨i0, hi, hz0, hz1, hz2⟩ := info_parts infoTime
  go_enter Tryz.func83, Tryz.ntmps83
  go_wp2_with fail
  have bG := Box4.new w 24 (.int .i64 d) (.int .i64 sl) (.int .i64 b) (.int .i64 m)
  have hb0 : Below w.heap.size w (w.alloc (.cells #[.int .i64 d, .int .i64 sl, .int .i64 b, .int .i64 m] 24)) := ext_alloc (Below.refl _ _) _
  refine (fparts_go B g line F fs c k _ (hS.alloc _) (h.later hb0) (hF.below (hb0.mono (by omega))) h2 hm hB hG hs).mono ?_
  rintro e w1 ⟨A, cap, rfl, hA, hs1, ho1⟩
  rw [hz] at hA
  rw [hz]
  obtain ⟨gb, hgb⟩ : ∃ gb, w.heap.size = gb := ⟨_, rfl⟩
  have bG1 := bG.only ho1 (by omega)
  have hF1 := (hF.below (hb0.mono (by have := h.lt; omega))).only ho1 hB (by rw [World.size_alloc]; omega)
  have hS1 := ho1.std (hS.alloc _) hG
  have ho : Only g w w1 := (World.grownBy_alloc _ _ _).trans ho1
  have hA1 : PcsAt w1 gb A zs := by rw [← hgb]; intro hn; obtain ⟨x, e, h1, h2, h3⟩ := hA hn; exact ⟨x, e, by rw [World.size_alloc] at h1; omega, h2, h3⟩
  clear ho1 hb0 bG hA hz hF hS h
  rw [hgb] at bG1
  have hz1w := ho.size
  obtain ⟨w1s, hw1s⟩ : ∃ w1s, w1.heap.size = w1s := ⟨_, rfl⟩
  replace hw1s := hide hw1s
  have hgw : g < w1s := by rw [← hw1s.out]; omega
  have hgl : g < gb := by omega
  have hgg : gb ≠ g := by omega
  rw [hgb]
  obtain ⟨len, hlen⟩ : ∃ len, zs.length = len := ⟨_, rfl⟩
  rw [hlen] at hzl
  rw [hlen]
  replace hlen := hide hlen
  replace hgb := hide hgb
  replace hzm := hide hzm
  go_wp2
  go_loopw [7, 15] (fun v i wr => TimesLoop d sl b m n zs w1s w1 g line col F fs.length c (k + 1) v i wr) (fun _ i _ => len - (intOf i).toNat)
  case atStart => exact ⟨0, Nat.zero_le _, rfl, World.ownsRow_nil _ _ _ _, hs1, World.grownBy.refl _ _⟩
  case round =>
    obtain ⟨j, hj, rfl, hown, hsr, hor⟩ := hrel
    rw [hlen.out] at hj
    by_cases hlt : j < len
    · obtain ⟨z, hzj⟩ : ∃ z, zs[j]? = some z := ⟨_, List.getElem?_eq_getElem (by rw [hlen.out]; exact hlt)⟩
      have hzz := hzm.out z (List.mem_of_getElem? hzj)
      obtain ⟨bs, rfl, q1, q2, hcl⟩ := (hA1.only hor (by omega)) (by rw [hlen.out]; omega)
      have hcj := hcl j z hzj
      clear hcl
      have bG := bG1.only hor hgg
      obtain ⟨a0, a1, a2, a3⟩ := bG
      have hSr := hor.std hS1 hG
      have hFr := hF1.only hor hB (by rw [hw1s.out]; omega)
      have hwr := hor.size
      rw [hw1s.out] at hwr
      obtain ⟨x1, x2, x3, x4, er, hT⟩ : ∃ x1 x2 x3 x4 er, pieceT d sl b m n z = (x1, x2, x3, x4, er) := ⟨_, _, _, _, _, rfl⟩
      have hts : Hid ((zs.take (j + 1)).map (pieceV d sl b m n) = (zs.take j).map (pieceV d sl b m n) ++ [(x1, x2, x3, x4)]) := by
        refine hide ((take_map _ zs j z hzj).trans ?_); unfold pieceV; rw [hT]
      have hes : Hid (firstE (pieceE d sl b m n) (zs.take (j + 1)) = if firstE (pieceE d sl b m n) (zs.take j) = 0 then er else firstE (pieceE d sl b m n) (zs.take j)) := by
        refine hide ((take_first _ zs j z hzj).trans ?_); unfold pieceE; rw [hT]
      obtain ⟨ts, hts0⟩ : ∃ ts, (zs.take j).map (pieceV d sl b m n) = ts := ⟨_, rfl⟩
      have htl : ts.length ≤ j := by rw [← hts0, List.length_map]; exact List.length_take_le _ _
      rw [hts0] at hown hts
      obtain ⟨e0, he0⟩ : ∃ e0, firstE (pieceE d sl b m n) (zs.take j) = e0 := ⟨_, rfl⟩
      rw [he0] at hsr hes
      replace hT := hide hT
      clear hts0 he0 hzj
      go_wp2_with fail
      refine (tgParse_at hT.out hzz wr hSr).mono ?_
      rintro e w2 ⟨rfl, hb2⟩
      have hs2 := hsr.later (ext_alloc hb2 (.cells #[.int .i64 x1, .int .i64 x2, .int .i64 x3, .int .i64 x4] 43))
      have hF2 := hFr.below ((ext_alloc hb2 (.cells #[.int .i64 x1, .int .i64 x2, .int .i64 x3, .int .i64 x4] 43)).mono (by omega))
      have hown2 := owns_later hown (ext_alloc hb2 (.cells #[.int .i64 x1, .int .i64 x2, .int .i64 x3, .int .i64 x4] 43))
      have ho2 := hor.later (ext_alloc hb2 (.cells #[.int .i64 x1, .int .i64 x2, .int .i64 x3, .int .i64 x4] 43))
      have bT := Box4.new w2 43 (.int .i64 x1) (.int .i64 x2) (.int .i64 x3) (.int .i64 x4)
      have hz2w := hb2.size
      clear hown hsr hor hFr hSr hT hb2
      go_wp2_with fail
      refine (fail_walk B g line F fs c (k + 1) _ er _ hs2 hF2 (by omega) (by omega) hm).mono ?_
      rintro e w3 ⟨rfl, hs3, ho3⟩
      rw [hcol.out, noted_prob] at hs3
      have hz3w := ho3.size
      rw [World.size_alloc] at hz3w
      have bT3 := bT.only ho3 (by omega)
      have hown3 := owns_only hown2 ho3 (by omega)
      have ho3' := ho2.trans ho3
      clear hown2 hs2 ho2 ho3 bT hF2
      obtain ⟨t0, t1, t2, t3⟩ := bT3
      go_wp2_with (at_builtin; refine wpList_append_own _ rfl _ _ 45 rfl w1s 43 i0 (.agg #[.int .i64 0, .int .i64 0, .int .i64 0, .int .i64 0]) 4 32 Tryz.underlying45 hi hz0 hz1 hz2 rfl (by decide) _ _ _ rfl (hown3.alloc _) ⟨w3.heap.size, 0, none⟩ 1 1 (encT (x1, x2, x3, x4)) rfl rfl (new_four _ _ _ _ _ _) (one_times _) ?c3 ?c4 ?c5 ?_)
      case c3 => unfold maxLen; omega
      case c4 => omega
      case c5 => rw [World.size_alloc]; omega
      intro v' w4 hown4 hgrow _
      have hs4 : Scan w4 g line F fs.length c (k + 1) (probOf line col (if e0 = 0 then er else e0)) := (hs3.later (ext_alloc (Below.refl _ _) _)).grown (hown3.alloc _) hgrow (own_far hown3 (by omega)) (by decide)
      have ho4 : Only g w1 w4 := (Only.later ho3' (ext_alloc (Below.refl _ _) _)).trans_own hgrow (own_high hown3 (by rw [hw1s.out]; omega))
      clear hown3 hs3 ho3'
      go_wp2
      go_roundw
      case rel => exact ⟨j + 1, by rw [hlen.out]; omega, by go_num, by rw [hts.out]; unfold TimesOwn; rw [List.length_append, flatT_snoc]; exact hown4, by rw [hes.out]; exact hs4, ho4⟩
      case measure => simp [intOf]; omega
    · obtain rfl : j = len := by omega
      have hall : Hid (zs.take j = zs) := hide (by rw [← hlen.out]; exact List.take_length)
      rw [hall.out] at hown hsr
      have hlm : (zs.map (pieceV d sl b m n)).length = j := by rw [List.length_map]; exact hlen.out
      have hown0 := owns_lower hown (C := w.heap.size) (by rw [← hw1s.out]; exact hz1w)
      obtain ⟨A', c', rfl⟩ := owns_form hown
      rw [hlm]
      have hfin : ∀ v' w', v' = Value.slice A' j c' → Only g wr w' → TimesOwn w.heap.size w' v' (zs.map (pieceV d sl b m n)) := fun v' w' e ho' => by
        rw [e]; have := owns_only hown ho' hgw; rw [hlm] at this; unfold TimesOwn; rw [hlm]; exact owns_lower this (by rw [← hw1s.out]; exact hz1w)
      have hor' := ho.trans hor
      replace hlm := hide hlm
      replace hfin := hide hfin
      obtain ⟨e0, he0⟩ : ∃ e0, firstE (pieceE d sl b m n) zs = e0 := ⟨_, rfl⟩
      have het : Hid (timesE d sl b m n zs = if e0 = 0 then (if 24 < j then 2 else 0) else e0) := by
        unfold timesE; rw [he0, hlen.out]; exact hide rfl
      rw [he0] at hsr
      have hFr := hF1.only hor hB (by rw [hw1s.out]; omega)
      clear hown hall hown0 he0 hor
      by_cases h24 : 24 < j
      · rw [if_pos h24] at het
        go_wp2_with fail
        refine (fail_walk B g line F fs c (k + 1) _ 2 _ hsr hFr (by omega) (by omega) hm).mono ?_
        rintro e w3 ⟨rfl, hs3, ho3⟩
        rw [hcol.out, noted_prob] at hs3
        go_wp2
        go_ret
        exact ⟨_, rfl, hfin.out _ _ rfl ho3, by rw [het.out]; exact hs3, hor'.trans ho3⟩
      · rw [if_neg h24] at het
        go_wp2
        go_ret
        exact ⟨_, rfl, hfin.out _ _ rfl (Only.refl _ _), by rw [het.out, show (if e0 = 0 then (0 : Int) else e0) = e0 from by split <;> simp [*]]; exact hsr, hor'⟩
end Go.Proofs.YtgbkochjoaalhaaGreatDoor
