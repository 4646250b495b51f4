/- Walk of requests.Students: the map's keys are gathered and sorted. Conditions: the requests' cells; fewer than 2^31 requests. Plain: a list says at most 64 codes. No condition. -/
import Derived.Shelf.SlSortCmp.NoneTotal
import Derived.Test.YthejgholpkeldaaGreatDoorZDOddQ
namespace Go.Proofs
open Go.Shelf
def Tryz.sortStr_ren : Go.Shelf.Ren := ⟨fun | 6 => 42 | 15 => 71 | 14 => 70 | 28 => 102 | 29 => 103 | 20 => 94 | 21 => 95 | 22 => 96 | 23 => 97 | 24 => 98 | 25 => 99 | 26 => 100 | 27 => 101 | 46 => 132 | 47 => 133 | 48 => 134 | 49 => 135 | 50 => 136 | 57 => 161 | n => n, fun | 22 => 41 | 24 => 9 | 25 => 54 | 3 => 3 | 39 => 113 | 0 => 0 | 53 => 143 | 55 => 145 | 4 => 4 | 46 => 137 | 45 => 136 | 50 => 130 | 5 => 5 | 9 => 9 | 66 => 171 | 70 => 175 | 76 => 194 | 77 => 195 | n => n, fun | n => n⟩
theorem Tryz.sortStr : Go.Proofs.SlLaysF.n6 Tryz.prog Tryz.sortStr_ren := {
 mixed := by kernel_rfl
 f6 := ⟨Tryz.f42.name, by decide, Tryz.func42.trans (congrArg some (by kernel_rfl))⟩
 f14 := ⟨Tryz.f70.name, by decide, Tryz.func70.trans (congrArg some (by kernel_rfl))⟩
 f15 := Tryz.func71.trans (congrArg some (by kernel_rfl))
 f20 := ⟨Tryz.f94.name, by decide, Tryz.func94.trans (congrArg some (by kernel_rfl))⟩
 f21 := ⟨Tryz.f95.name, by decide, Tryz.func95.trans (congrArg some (by kernel_rfl))⟩
 f22 := ⟨Tryz.f96.name, by decide, Tryz.func96.trans (congrArg some (by kernel_rfl))⟩
 f23 := ⟨Tryz.f97.name, by decide, Tryz.func97.trans (congrArg some (by kernel_rfl))⟩
 f24 := ⟨Tryz.f98.name, by decide, Tryz.func98.trans (congrArg some (by kernel_rfl))⟩
 f25 := ⟨Tryz.f99.name, by decide, Tryz.func99.trans (congrArg some (by kernel_rfl))⟩
 f26 := ⟨Tryz.f100.name, by decide, Tryz.func100.trans (congrArg some (by kernel_rfl))⟩
 f27 := ⟨Tryz.f101.name, by decide, Tryz.func101.trans (congrArg some (by kernel_rfl))⟩
 f28 := Tryz.func102.trans (congrArg some (by kernel_rfl))
 f29 := Tryz.func103.trans (congrArg some (by kernel_rfl))
 f46 := ⟨Tryz.f132.name, by decide, Tryz.func132.trans (congrArg some (by kernel_rfl))⟩
 f47 := Tryz.func133.trans (congrArg some (by kernel_rfl))
 f48 := Tryz.func134.trans (congrArg some (by kernel_rfl))
 f49 := ⟨Tryz.f135.name, by decide, Tryz.func135.trans (congrArg some (by kernel_rfl))⟩
 f50 := ⟨Tryz.f136.name, by decide, Tryz.func136.trans (congrArg some (by kernel_rfl))⟩
 f57 := ⟨Tryz.f161.name, by decide, Tryz.func161.trans (congrArg some (by kernel_rfl))⟩
 t0 := Tryz.underlying0
 a0 := Tryz.isAgg0
 z0 := Tryz.sizeOf0
 v0 := Tryz.zeroValue0
 t3 := Tryz.underlying3
 a3 := Tryz.isAgg3
 z3 := Tryz.sizeOf3
 v3 := Tryz.zeroValue3
 t4 := Tryz.underlying4
 a4 := Tryz.isAgg4
 z4 := Tryz.sizeOf4
 v4 := Tryz.zeroValue4
 t5 := Tryz.underlying5
 a5 := Tryz.isAgg5
 z5 := Tryz.sizeOf5
 v5 := Tryz.zeroValue5
 t9 := Tryz.underlying9
 a9 := Tryz.isAgg9
 z9 := Tryz.sizeOf9
 v9 := Tryz.zeroValue9
 t22 := Tryz.underlying41
 a22 := Tryz.isAgg41
 z22 := Tryz.sizeOf41
 v22 := Tryz.zeroValue41
 a24 := Tryz.isAgg9
 z24 := Tryz.sizeOf9
 t25 := Tryz.underlying54
 a25 := Tryz.isAgg54
 z25 := Tryz.sizeOf54
 v25 := Tryz.zeroValue54
 t39 := Tryz.underlying113
 a39 := Tryz.isAgg113
 z39 := Tryz.sizeOf113
 v39 := Tryz.zeroValue113
 t45 := Tryz.underlying136
 a45 := Tryz.isAgg136
 z45 := Tryz.sizeOf136
 v45 := Tryz.zeroValue136
 t46 := Tryz.underlying137
 a46 := Tryz.isAgg137
 z46 := Tryz.sizeOf137
 v46 := Tryz.zeroValue137
 t50 := Tryz.underlying130
 a50 := Tryz.isAgg130
 z50 := Tryz.sizeOf130
 v50 := Tryz.zeroValue130
 t53 := Tryz.underlying143
 a53 := Tryz.isAgg143
 z53 := Tryz.sizeOf143
 v53 := Tryz.zeroValue143
 t55 := Tryz.underlying145
 a55 := Tryz.isAgg145
 z55 := Tryz.sizeOf145
 v55 := Tryz.zeroValue145
 t66 := Tryz.underlying171
 a66 := Tryz.isAgg171
 z66 := Tryz.sizeOf171
 v66 := Tryz.zeroValue171
 t70 := Tryz.underlying175
 a70 := Tryz.isAgg175
 z70 := Tryz.sizeOf175
 v70 := Tryz.zeroValue175
 t76 := Tryz.underlying194
 a76 := Tryz.isAgg194
 z76 := Tryz.sizeOf194
 v76 := Tryz.zeroValue194
 t77 := Tryz.underlying195
 a77 := Tryz.isAgg195
 z77 := Tryz.sizeOf195
 v77 := Tryz.zeroValue195 }
end Go.Proofs
namespace Go.Proofs.YthejgholpkeldaaGreatDoor
open Go.RowKit Go.Sort
set_option maxRecDepth 100000

/-! The range over the map. -/
def RngAt (w : World) (b r : Nat) (ss out : List ByteArray) (cnt : Nat) : Prop :=
 ∃ (D : DataW Unit) (left : Lit → Bool), w.ranges Tryz.prog 9 (plainElem Tryz.prog 3) b r ss.length D left cnt ∧ (∀ z : ByteArray, left (.string z.data.toList) = decide (0 ≤ idxS z ss ∧ ¬ 0 ≤ idxS z out)) ∧ out.Nodup ∧ (∀ z ∈ out, z ∈ ss) ∧ r ≠ b
theorem RngAt.left_eq {w : World} {b r : Nat} {ss out : List ByteArray} {cnt : Nat} (h : RngAt w b r ss out cnt) : w.rangeLeft b r = cnt := by obtain ⟨D, left, h, -⟩ := h; exact h.left_eq
theorem RngAt.kept {w w' : World} {b r : Nat} {ss out : List ByteArray} {cnt : Nat} {row : Option Nat} (h : RngAt w b r ss out cnt) (hg : w.grownBy w' row) (h1 : some b ≠ row) (h2 : some r ≠ row) : RngAt w' b r ss out cnt := by
 obtain ⟨D, left, h, h3⟩ := h
 exact ⟨D, left, h.kept hg h1 h2, h3⟩
theorem wpList_range_studs {w : World} {ops : Array Oper} {rest : List Oper} {o : Oper} {a : Act} {Q : Exit → Act → World → Prop} (hg : o.guard = none) (m : Operand) (hop : o.op = Op.range 84 m) {b : Nat} {ss : List ByteArray} (hm : a.eval m = .map (some b)) (h : CntAt w b ss)
  (hK : ∀ w' cnt, RngAt w' b w.heap.size ss [] cnt → w.grownBy w' none → w'.heap.size = w.heap.size + 1 → wpList Tryz.prog ops Q rest (a.put o.dst (.pointer (some ⟨w.heap.size, 0, none⟩))) w') : wpList Tryz.prog ops Q (o :: rest) a w := by
 obtain ⟨D, h1, -, h3, -⟩ := h
 exact wpList_range_own w hg m _ hop 9 3 (Maps.string_keyed Tryz.underlying9) Tryz.underlying84 _ b ss.length D hm h1 fun w' r1 r2 r3 => hK w' _ ⟨D, Maps.has D, r1, fun z => by rw [h3 z]; exact decide_eq_decide.2 ⟨fun h => ⟨h, fun h' => by have := idx_memS.1 h'; simp at this⟩, fun h => h.1⟩, List.nodup_nil, fun z hz => by simp at hz, r1.ne⟩ r2 r3
theorem same_strings (x z : ByteArray) : (Lit.string z.data.toList).sameKey (.string x.data.toList) = decide (z = x) := by
 by_cases e : z = x
 ·subst e
  rw [WideAt.sameKey_self (show WideAt.IsKeyLit (.string z.data.toList) from trivial)]
  exact (decide_eq_true rfl).symm
 ·rw [Maps.sameKey_ne (fun h => e (met_inj (by injection h)))]
  exact (decide_eq_false e).symm
theorem wpList_next_studs {w : World} {ops : Array Oper} {rest : List Oper} {o : Oper} {a : Act} {Q : Exit → Act → World → Prop} (hg : o.guard = none) (it : Operand) (hop : o.op = Op.next it false) {b r cnt : Nat} {ss out : List ByteArray} (hit : a.eval it = .pointer (some ⟨r, 0, none⟩)) (h : RngAt w b r ss out cnt)
  (hDone : (∀ z ∈ ss, z ∈ out) → wpList Tryz.prog ops Q rest (a.put o.dst (.tuple #[.bool false])) w)
  (hMore : ∀ (x : ByteArray) (c : Int) (w' : World) (cnt' : Nat), x ∈ ss → ¬ x ∈ out → RngAt w' b r ss (out ++ [x]) cnt' → cnt' < cnt → w.grownBy w' (some r) → w'.heap.size = w.heap.size → (Instr.entry (.pointer (some ⟨r, 0, none⟩))).run Tryz.prog w' = .ok (.tuple #[.string x, .int .i64 c]) w' → wpList Tryz.prog ops Q rest (a.put o.dst (.tuple #[.bool true, .string x, .int .i64 c])) w') :
  wpList Tryz.prog ops Q (o :: rest) a w := by
 obtain ⟨D, left, h1, h2, h3, h4, h5⟩ := h
 refine wpList_next_ranges w hg it hop 9 (Maps.string_keyed Tryz.underlying9) (plainElem Tryz.prog 3) Value.string (Value.int .i64) (fun key kl hk => by obtain ⟨x, rfl, -⟩ := WideMaps.string_of_keyOf Tryz.underlying9 hk; exact ⟨x, rfl⟩) (fun v y hv => by obtain ⟨c, rfl, -⟩ := plainElem_int_inv Tryz.underlying3 hv; exact ⟨c, rfl⟩) b r ss.length D left cnt hit h1 ?_ ?_
 ·intro _ hall
  refine hDone fun z hz => Classical.byContradiction fun hn => ?_
  have := h2 z
  rw [hall, decide_eq_true ⟨idx_memS.2 hz, fun h => hn (idx_memS.1 h)⟩] at this
  cases this
 ·intro x c kl y w' cnt' hkey hlk hv hat hrg hlt hgr hsz hen
  obtain ⟨x', ex, rfl, hxz⟩ := WideMaps.string_of_keyOf Tryz.underlying9 hkey
  cases ex
  have hx := h2 x
  rw [hlk] at hx
  have hx := of_decide_eq_true hx.symm
  have hx : x ∈ ss ∧ ¬ x ∈ out := ⟨idx_memS.1 hx.1, fun h => hx.2 (idx_memS.2 h)⟩
  refine hMore x c w' cnt' hx.1 hx.2 ⟨D, _, hrg, fun z => ?_, ?_, ?_, h5⟩ hlt hgr hsz hen
  ·rw [h2 z, same_strings, ← decide_not, ← Bool.decide_and]
   exact decide_eq_decide.2 (by rw [idx_memS, idx_memS, idx_memS]; simp [and_assoc])
  ·exact List.nodup_append.2 ⟨h3, by simp, fun p hp q hq => by simp at hq; subst hq; rintro rfl; exact hx.2 hp⟩
  ·intro z hz
   rcases List.mem_append.1 hz with hz | hz
   ·exact h4 z hz
   ·simp at hz; subst hz; exact hx.1
theorem studs_all {ss out : List ByteArray} (h3 : out.Nodup) (h4 : ∀ z ∈ out, z ∈ ss) (h : ∀ z ∈ ss, z ∈ out) : out.Perm (freshS ss) := by
 refine (@List.perm_iff_count ByteArray instBEqOfDecidableEq inferInstance _ _).2 fun a => ?_
 rw [@List.Nodup.count ByteArray instBEqOfDecidableEq inferInstance _ _ h3, @List.Nodup.count ByteArray instBEqOfDecidableEq inferInstance _ _ (fresh_nodup ss)]
 have : a ∈ out ↔ a ∈ freshS ss := by rw [mem_fresh]; exact ⟨h4 a, h a⟩
 by_cases hm : a ∈ out
 ·rw [if_pos hm, if_pos (this.1 hm)]
 ·rw [if_neg hm, if_neg (fun h => hm (this.2 h))]
theorem nodup_len : ∀ {l m : List ByteArray}, l.Nodup → (∀ z ∈ l, z ∈ m) → l.length ≤ m.length
 | [], m, _, _ => Nat.zero_le _
 | x :: l, m, h, hs => by
  obtain ⟨h1, h2⟩ := List.nodup_cons.1 h
  obtain ⟨a, b, rfl⟩ := List.append_of_mem (hs x (by simp))
  have := nodup_len (l := l) (m := a ++ b) h2 fun z hz => by
   have hm := hs z (List.mem_cons_of_mem _ hz)
   rw [List.mem_append, List.mem_cons] at hm
   rw [List.mem_append]
   rcases hm with hm | rfl | hm
   ·exact Or.inl hm
   ·exact absurd hz h1
   ·exact Or.inr hm
  rw [List.length_append] at this
  rw [List.length_cons, List.length_append, List.length_cons]
  omega
/-! Sorting them. -/
abbrev StrB := {s : ByteArray // s.size ≤ 9223372036854775807}
instance instStrB : Inhabited StrB := ⟨⟨⟨#[]⟩, by decide⟩⟩
def encB (s : StrB) : Value := .string s.1
def cmpB (a b : StrB) : Int := compareV a.1.data.toList b.1.data.toList
theorem ltB (x y : StrB) : ltOf cmpB x y = lessN x.1 y.1 := rfl
theorem swoB : SWO (ltOf cmpB) where
 irrefl x := by
  rw [ltB, lessN_no]
  have := isCmp_compare.neg x.1.data.toList x.1.data.toList
  omega
 trans x y z h1 h2 := by
  rw [ltB] at *
  unfold lessN at *
  have h1 := of_decide_eq_true h1
  have h2 := of_decide_eq_true h2
  exact decide_eq_true (isCmp_compare.lt h1 (by omega))
 ntrans x y z h1 h2 := by rw [ltB] at *; exact lessN_trans z.1 y.1 x.1 h2 h1
def strB (l : List ByteArray) (h : ∀ s ∈ l, s.size ≤ 9223372036854775807) : List StrB := l.attach.map fun x => ⟨x.1, h x.1 x.2⟩
theorem strB_map (l : List ByteArray) (h : ∀ s ∈ l, s.size ≤ 9223372036854775807) : (strB l h).map Subtype.val = l := by
 unfold strB
 rw [List.map_map]
 exact List.attach_map_subtype_val l
theorem heap_put1 {w : World} {g n : Nat} {os : Array Obj} {cur : Array Value} {d : Array StrB} {e : TypeId} {fr : Nat × Nat} (hb : w.heap[g]? = some (.cells cur e fr)) :
  (grow (putRow encB (Sort.ahead w n) g 0 d) os).heap[g]? = some (.cells (putCells encB 0 d cur) e fr) := by
 have hg : g < w.heap.size := (Array.getElem?_eq_some_iff.1 hb).1
 rw [heap_grow_old _ _ (by simpa [putRow, mapBlock, Sort.ahead] using hg)]
 simp [putRow, mapBlock, Sort.ahead, Array.getElem?_modify, hb, onCells]
theorem grownBy_put1 {w : World} {g n : Nat} {os : Array Obj} (d : Array StrB) : w.grownBy (grow (putRow encB (Sort.ahead w n) g 0 d) os) (some g) := by
 refine ⟨rfl, rfl, rfl, by simp [putRow, mapBlock, Sort.ahead], fun k hk hne => ?_⟩
 rw [heap_grow_old _ _ (by simpa [putRow, mapBlock, Sort.ahead] using hk)]
 have : g ≠ k := fun e => hne (by rw [e])
 simp [putRow, mapBlock, Sort.ahead, Array.getElem?_modify, this]
theorem own_strs {B : Nat} {w : World} {v : Value} {l : List ByteArray} : Own kStr 9 [] 0 B w v l ↔ w.ownsRow B 9 1 v l.length (l.map Value.string) := by
 have hf : ∀ zs : List ByteArray, (zs.map fun z => [Value.string z]).flatten = zs.map Value.string := fun zs => by
  induction zs with
  | nil => rfl
  | cons z zs ih => rw [List.map_cons, List.flatten_cons, List.map_cons, ih]; rfl
 constructor
 ·rintro ⟨vss, e1, e2, e3⟩
  have : vss = l.map fun z => [Value.string z] := by
   refine List.ext_getElem? fun j => ?_
   rw [List.getElem?_map]
   rcases Nat.lt_or_ge j l.length with hj | hj
   ·have hv : vss[j]? = some (vss[j]'(by omega)) := List.getElem?_eq_getElem (by omega)
    have hl : l[j]? = some l[j] := List.getElem?_eq_getElem hj
    have h3 := e3 j _ _ hl hv
    rw [rep_str] at h3
    rw [hv, hl, h3]; rfl
   ·rw [List.getElem?_eq_none (by omega), List.getElem?_eq_none (by omega)]; rfl
  rw [this, hf] at e2
  exact e2
 ·intro h
  refine ⟨l.map fun z => [.string z], by simp, by rw [hf]; exact h, fun j x vs hj hv => ?_⟩
  rw [List.getElem?_map, hj] at hv
  cases Option.some.inj hv
  exact rep_str.2 rfl
def SortedN (B : Nat) (A : Option Addr) (c : Nat) (l : List ByteArray) (w : World) (e : Ending) (w' : World) : Prop :=
 e = .returned (.tuple #[]) ∧ Own kStr 9 [] 0 B w' (.slice A l.length c) (ascN l) ∧ w.grownBy w' (Value.slice A l.length c).ownBlock
theorem sortN_none (A : Option Addr) (c : Nat) (w : World) :
  Calls Tryz.prog 42 #[.slice A 0 c, .func (.func 43) #[] #[]] w fun e w' => e = .returned (.tuple #[]) ∧ w' = w := AnyF.slices_SortFunc_none { Tryz.sortStr with } A c _ w
set_option maxHeartbeats 1000000 in
theorem sortN_walk (B : Nat) (A : Option Addr) (c : Nat) (l : List ByteArray) (w : World) (hl : l.length < 4611686018427387904) (hz : ∀ s ∈ l, s.size ≤ 9223372036854775807) (h : Own kStr 9 [] 0 B w (.slice A l.length c) l) :
  Calls Tryz.prog 42 #[.slice A l.length c, .func (.func 43) #[] #[]] w fun e w' => SortedN B A c l w e w' := by
 have h' := own_strs.1 h
 rcases h'.2 with ⟨he, h0⟩ | ⟨g, cap, cur, he, hB, hg, hn, hm, hsz, ht⟩
 ·obtain rfl := List.eq_nil_of_length_eq_zero h0
  refine (sortN_none A c w).mono fun e w' ⟨h1, h2⟩ => ⟨h1, ?_, ?_⟩
  ·rw [h2]; exact h
  ·rw [h2]; exact World.grownBy.refl _ _
 ·injection he with h1 _ h2
  subst h1 h2
  have eg : ∀ args w, (callFunc 43 args).run Tryz.prog w = .ok (.enter 43 args) w := enters_of Tryz.func43 (by kernel_rfl) rfl
  obtain ⟨L, hL⟩ : ∃ L, strB l hz = L := ⟨_, rfl⟩
  have hLm : L.map Subtype.val = l := by rw [← hL]; exact strB_map l hz
  have hLl : L.length = l.length := by rw [← hLm, List.length_map]
  have hH : Holds encB w g 0 L.toArray := by
   intro j hj
   have hj : j < L.length := by simpa using hj
   have h1 : (cur.toList.take (l.length * 1))[j]? = (l.map Value.string)[j]? := by rw [ht]
   rw [List.getElem?_take_of_lt (by omega), ← hLm, List.map_map, List.getElem?_map, List.getElem?_eq_getElem hj, Array.getElem?_toList] at h1
   refine ⟨?_, by simp [World.frozen?, hg]⟩
   rw [Nat.zero_add, cell_of_row w g j cur _ (0, 0) hg, h1, getElem!_pos _ j (by simpa using hj)]
   rfl
  have hcon := Any.slices_SortFunc Tryz.sortStr encB (fun _ => rfl) cmpB swoB 43 #[] g 0 c L.toArray w eg (fun _ _ _ _ x y => (ccompare_walkG x.1 y.1 _ x.2 y.2).mono fun e w' ⟨he, hgr⟩ => ⟨he, hgr.grown⟩) hH (blk_lt hg) (by simp; omega)
  change Calls Tryz.prog 42 _ _ _ at hcon
  rw [List.size_toArray, hLl] at hcon
  refine hcon.mono ?_
  rintro e w' ⟨h1, d', n, os, ⟨hs, -, hp⟩, hso, rfl⟩
  obtain ⟨m, rfl⟩ : ∃ m : List StrB, d' = m.toArray := ⟨d'.toList, by simp⟩
  have hml : m.length = l.length := by rw [← hLl]; simpa using hs
  have hperm : (m.map Subtype.val).Perm l := by
   have h2 : (m.toArray.extract 0 l.length).toList = m := by rw [← hml]; simp
   have h3 : (L.toArray.extract 0 l.length).toList = L := by rw [← hLl]; simp
   rw [h2, h3] at hp
   rw [← hLm]
   exact hp.map _
  have hpw : (m.map Subtype.val).Pairwise (LeG lessN) := by
   rw [List.pairwise_iff_getElem]
   intro i j hi hj hij
   have hi' : i < m.length := by simpa using hi
   have hj' : j < m.length := by simpa using hj
   have := hso i j (Nat.zero_le _) hij (by omega)
   rw [ltB, getElem!_pos _ i (by simpa using hi'), getElem!_pos _ j (by simpa using hj')] at this
   simpa [LeG] using this
  have hme := ascN_eq hperm hpw
  refine ⟨h1, ?_, grownBy_put1 _⟩
  rw [← hme]
  refine own_strs.2 ?_
  rw [List.length_map, hml]
  have hb := heap_put1 (n := n) (os := os) (d := m.toArray) hg
  refine ⟨by simp [hml], .inr ⟨g, c, _, rfl, hB, hb, hn, hm, by simp [putCells, hsz], ?_⟩⟩
  apply List.ext_getElem?
  intro j
  rcases Nat.lt_or_ge j l.length with hj | hj
  ·rw [List.getElem?_take_of_lt (by omega), Array.getElem?_toList, List.map_map, List.getElem?_map, List.getElem?_eq_getElem (by omega)]
   simp [putCells, hml, hj, encB, show j < cur.size by rw [hsz]; omega]
  ·rw [List.getElem?_eq_none (by simp; omega), List.getElem?_eq_none (by simp; omega)]
def StudentsGive (l : List Req) (w : World) (e : Ending) (w' : World) : Prop := ∃ v, e = .returned v ∧ Own kStr 9 [] 0 w.heap.size w' v (studsV l) ∧ Below w.heap.size w w'
set_option maxHeartbeats 4000000 in
theorem studentsQ_walk (A : Option Addr) (l : List Req) (c : Nat) (w : World) (hn : l.length ≤ 4000000000) (hz : ∀ x ∈ l, x.1.size ≤ 9223372036854775807) (h : At kReq AnyB w A l) :
  Calls Tryz.prog 20 #[.slice A l.length c] w fun e w' => StudentsGive l w e w' := by
 have hst := students_walk A l c w (by omega) hz h
 have hzs : Hid (∀ s ∈ freshS (studs l), s.size ≤ 9223372036854775807) := hide fun s hs => by
  obtain ⟨x, hx, rfl⟩ := List.mem_map.1 ((mem_fresh _ _).1 hs)
  exact hz x hx
 have hfl : (freshS (studs l)).length ≤ 4000000000 := Nat.le_trans (fresh_len _) (by unfold studs; rw [List.length_map]; exact hn)
 obtain ⟨ss, hss⟩ : ∃ ss, studs l = ss := ⟨_, rfl⟩
 have hV : Hid (studsV l = ascN (freshS ss)) := hide (by rw [← hss]; rfl)
 rw [hss] at hzs hfl
 unfold StudsGives at hst
 rw [hss] at hst
 obtain ⟨N, hN⟩ : ∃ N, l.length = N := ⟨_, rfl⟩
 rw [hN] at hst ⊢
 clear h hz hss hN
 go_enter Tryz.func20, Tryz.ntmps20
 go_wp2_with fail
 refine hst.mono ?_
 clear hst
 rintro e w1 ⟨mb, rfl, hmb, hcn, hb1⟩
 have hcl := hcn.lt
 go_wp2_with (at_range; refine wpList_range_studs rfl _ rfl rfl hcn ?_; intro w2 cnt hr2 hg2 hs2)
 have hb2 : Below w.heap.size w w2 := Below.grown hb1 hg2 hb1.size (fun y e => by cases e)
 have hml : mb < w2.heap.size := by omega
 obtain ⟨r, hr⟩ : ∃ r, w1.heap.size = r := ⟨_, rfl⟩
 rw [hr] at hr2
 have hrl : r < w2.heap.size := by omega
 have hrw : w.heap.size ≤ r := by have := hb1.size; omega
 have hwz := hb2.size
 go_frame
 rw [hr]
 replace hr := hide hr
 clear hcn hb1 hg2 hs2 hcl
 go_loopw [3] (fun v wr => ∃ (out : List ByteArray) (cnt : Nat), Own kStr 9 [] 0 w2.heap.size wr v out ∧ RngAt wr mb r ss out cnt ∧ Below w.heap.size w wr ∧ w2.heap.size ≤ wr.heap.size) (fun _ wr => wr.rangeLeft mb r)
 case atStart => exact ⟨[], cnt, Own.nil, hr2, hb2, Nat.le_refl _⟩
 case round =>
  clear hr2 hb2
  obtain ⟨out, cn, hown, hrg, hb, hz2⟩ := hrel
  obtain ⟨A6, c6, rfl⟩ := hown.form
  have hol : out.length ≤ 4000000000 := by
   obtain ⟨-, -, -, -, h3, h4, -⟩ := id hrg
   have hsub : out.length ≤ (freshS ss).length := nodup_len h3 fun z hz => (mem_fresh _ _).2 (h4 z hz)
   omega
  have hleft := hrg.left_eq
  go_wp2_with (at_next; refine wpList_next_studs rfl _ rfl rfl hrg ?_ ?_)
  ·intro hall
   have hperm : out.Perm (freshS ss) := by
    obtain ⟨-, -, -, -, h3, h4, -⟩ := id hrg
    exact studs_all h3 h4 hall
   have hsz : ∀ s ∈ out, s.size ≤ 9223372036854775807 := fun s hs => hzs.out s (hperm.mem_iff.1 hs)
   have hfin : Hid (ascN out = studsV l) := hide (by rw [hV.out]; exact ascN_eq ((ascG_perm out).trans hperm) (ascN_sorted out))
   have hsort := sortN_walk w2.heap.size A6 c6 out wr (by omega) hsz hown
   unfold SortedN at hsort
   rw [hfin.out] at hsort
   obtain ⟨n, hn⟩ : ∃ n, out.length = n := ⟨_, rfl⟩
   rw [hn] at hsort ⊢
   have hlt : ∀ y, (Value.slice A6 n c6).ownBlock = some y → w.heap.size ≤ y := fun y e => by rw [← hn] at e; have := (hown.lt y e).1; omega
   replace hlt := hide hlt
   clear hall hperm hsz hown hrg hleft hzs hol
   go_wp2_with fail
   refine hsort.mono ?_
   clear hsort
   rintro e w5 ⟨rfl, ho5, hg5⟩
   have hb5 : Below w.heap.size w w5 := Below.grown hb hg5 hb.size hlt.out
   go_wp2
   go_ret
   exact ⟨_, rfl, ho5.lower hwz, hb5⟩
  ·intro x c w3 cnt3 hxs hxo hrg3 hlt3 hg3 hs3 hen
   have hb3 : Below w.heap.size w w3 := Below.grown hb hg3 hb.size (fun y e => by injection e with e; omega)
   have hown3 := hown.kept hg3 (Or.inr (fun e => by have := (hown.lt r e).1; omega)) (fun g e => ⟨Nat.zero_le _, fun h => by injection e with e; omega⟩)
   replace hs3 := hide hs3
   clear hown hrg hg3
   go_wp2_with (at_builtin; refine wpList_own rfl _ _ rfl apd_strs (by decide) rfl (hown3.alloc _) ?c1 (by decide) ⟨w3.heap.size, 0, none⟩ 1 rfl x [.string x] rfl (World.news_of_block (cs := #[.string x]) (t := 9) (fr := (0, 0)) (heap_alloc_new _ _)) (by decide) (Nat.zero_le _) ?c2 ?_)
   case c1 => exact hol
   case c2 => rw [World.size_alloc]; have := hs3.out; omega
   intro v' w4 hown4 hgrow
   have hb4 : Below w.heap.size w w4 := Below.grown (ext_alloc hb3 _) hgrow (by rw [World.size_alloc]; have := hb3.size; omega) (fun y e => by have := ((hown3.alloc (.cells #[.string x] 9)).lt y e).1; omega)
   have hrg4 := (hrg3.kept (World.grownBy_alloc w3 (.cells #[.string x] 9) none) (by simp) (by simp)).kept hgrow ((hown3.alloc (.cells #[.string x] 9)).far hml) ((hown3.alloc (.cells #[.string x] 9)).far hrl)
   have hz4 := hgrow.size
   rw [World.size_alloc] at hz4
   have hl4 := hrg4.left_eq
   clear hown3 hgrow hb3 hen
   go_wp2
   go_roundw
   case rel => exact ⟨_, _, hown4, hrg4, hb4, by have := hs3.out; omega⟩
   case measure => rw [hl4, hleft]; exact hlt3
end Go.Proofs.YthejgholpkeldaaGreatDoor

namespace Go.Proofs.YthejgholpkeldaaGreatDoor
open Go.RowKit
set_option maxRecDepth 100000

theorem listF_len64 : ∀ (ps out : List ByteArray), out.length ≤ 64 → (listF out ps).2.length ≤ 64
 | [], out, h => by
  rw [listF]
  split
  ·exact h
  ·exact Nat.zero_le _
 | p :: ps, out, h => by
  by_cases h1 : (partV p (64 - out.length)).1 ≠ 0
  ·rw [listF_err h1]; exact Nat.zero_le _
  ·obtain ⟨more, hm⟩ : ∃ more, partV p (64 - out.length) = (0, more) := ⟨_, Prod.ext (by omega) rfl⟩
   rw [listF_ok hm]
   by_cases h2 : 64 < (out ++ more).length
   ·rw [if_pos h2]; exact Nat.zero_le _
   ·rw [if_neg h2]; exact listF_len64 ps _ (by omega)
theorem listV_len64 (s : ByteArray) : (listV s).2.length ≤ 64 := by
 unfold listV
 split
 ·exact Nat.zero_le _
 ·exact listF_len64 _ _ (Nat.zero_le _)
end Go.Proofs.YthejgholpkeldaaGreatDoor
