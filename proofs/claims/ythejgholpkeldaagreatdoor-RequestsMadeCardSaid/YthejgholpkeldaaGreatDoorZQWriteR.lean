/- Walk of timetableref12.one. Conditions: texts shorter than 2^30 bytes; what the program's variables hold. Walks of timetableref12.ReadLines and Read. Conditions: texts shorter than 2^30 bytes; what the program's variables hold. Walk of timetableref12.Valid. Conditions: the requests' cells; the lists are no longer than lists can be. Walk of timetableref12.Write. Conditions: the requests' cells; what the program's variables hold. -/
import Derived.Test.YthejgholpkeldaaGreatDoorZQStudR
namespace Go.Proofs.YthejgholpkeldaaGreatDoor
open Go.RowKit
set_option maxRecDepth 100000

theorem end_req3 {fn : Func} {p u v : Tmp} (hr : fn.results = #[.cell p 53, .tmp u, .tmp v]) {Q : Ending → World → Prop} {act : Act} {w : World} (g : Nat) (a b c d x y : Value) (hd : act.defers = [])
    (hp : act.tmps.getD p undef = .pointer (some ⟨g, 0, none⟩)) (hx : act.tmps.getD u undef = x) (hy : act.tmps.getD v undef = y)
    (h0 : w.cell? ⟨g, 0, none⟩ = some a) (h1 : w.cell? ⟨g, 1, none⟩ = some b) (h2 : w.cell? ⟨g, 2, none⟩ = some c) (h3 : w.cell? ⟨g, 3, none⟩ = some d)
    (hQ : Q (.returned (.tuple #[.agg #[a, b, c, d], x, y])) w) : bodyPost Tryz.prog fn Q .ret act w := by
  refine bodyPost_ret (v := .tuple #[.agg #[a, b, c, d], x, y]) ?_ hd hQ
  simp only [results, hr]
  simp [Sem.run_bind, Result.andThen, -Array.getD_eq_getD_getElem?]
  rw [hp, hx, hy]
  simp only [asAddr, Sem.run_pure]
  rw [load4q w g a b c d h0 h1 h2 h3]
def OneQGives (fs : List Fld) (ls : List Req) (w : World) (e : Ending) (w' : World) : Prop :=
  ∃ (z co : ByteArray) (nn : Int) (l : List ByteArray) (v3 : Value), e = .returned (.tuple #[.agg #[.string z, .string co, .int .i64 nn, v3], .int .i64 (reqKE fs ls).1, .int .i64 (reqKE fs ls).2]) ∧
    Own kStr 9 [] 0 w.heap.size w' v3 l ∧ ((reqKE fs ls).2 = 0 → (z, co, nn, l) = reqOf fs) ∧ Below w.heap.size w w'
theorem below_set4q {w0 W : World} {r B : Nat} {a b c d : Value} (h : Below B w0 W) (hr : B ≤ r) : Below B w0 (set4q W r a b c d) :=
  (((h.setCell (p := ⟨r, 0, none⟩) hr _).setCell (p := ⟨r, 1, none⟩) hr _).setCell (p := ⟨r, 2, none⟩) hr _).setCell (p := ⟨r, 3, none⟩) hr _
theorem req_fin {fs : List Fld} {ls : List Req} {w W : World} {q B : Nat} {z co : ByteArray} {nn k e : Int} {l : List ByteArray} {v3 : Value}
    (hk : reqKE fs ls = (k, e)) (h3 : Own kStr 9 [] 0 B W v3 l) (he : e = 0 → (z, co, nn, l) = reqOf fs) (hb : Below w.heap.size w W) (hq : w.heap.size ≤ q) (hB : q < B) :
    OneQGives fs ls w (.returned (.tuple #[.agg #[.string z, .string co, .int .i64 nn, v3], .int .i64 k, .int .i64 e])) (set4q W q (.string z) (.string co) (.int .i64 nn) v3) := by
  have ho : Only q W (set4q W q (.string z) (.string co) (.int .i64 nn) v3) := set4q_only (Only.refl q W) (Or.inl rfl)
  unfold OneQGives
  rw [hk]
  exact ⟨z, co, nn, l, v3, rfl, (h3.noting ho hB).lower (by omega), he, below_set4q hb hq⟩
/-- A box of four cells that can be written. -/
structure BoxQ (w : World) (q : Nat) (a b c d : Value) : Prop where
  c0 : w.cell? ⟨q, 0, none⟩ = some a
  c1 : w.cell? ⟨q, 1, none⟩ = some b
  c2 : w.cell? ⟨q, 2, none⟩ = some c
  c3 : w.cell? ⟨q, 3, none⟩ = some d
  fr : ∀ j, w.frozen? ⟨q, j, none⟩ = false
section
variable {w w' : World} {q : Nat} {a b c d : Value}
theorem BoxQ.lt (h : BoxQ w q a b c d) : q < w.heap.size := World.block_lt_of_cell? _ _ h.c0
theorem BoxQ.later (h : BoxQ w q a b c d) (hb : Below w.heap.size w w') : BoxQ w' q a b c d :=
  ⟨cell_later hb h.c0, cell_later hb h.c1, cell_later hb h.c2, cell_later hb h.c3, fun j => (hb.frozen (p := ⟨q, j, none⟩) h.lt).trans (h.fr j)⟩
theorem BoxQ.other (h : BoxQ w q a b c d) {r i : Nat} (hr : q ≠ r) (u : Value) : BoxQ (w.setCell ⟨r, i, none⟩ u) q a b c d := by
  have o : ∀ j, (w.setCell ⟨r, i, none⟩ u).cell? ⟨q, j, none⟩ = w.cell? ⟨q, j, none⟩ := fun j => World.cell?_setCell_other _ _ _ _ (by intro e; injection e with e1 _; exact hr e1.symm)
  exact ⟨(o 0).trans h.c0, (o 1).trans h.c1, (o 2).trans h.c2, (o 3).trans h.c3, fun j => by rw [World.frozen?_setCell]; exact h.fr j⟩
theorem BoxQ.set2 (h : BoxQ w q a b c d) (u : Value) : BoxQ (w.setCell ⟨q, 2, none⟩ u) q a b u d := by
  have o : ∀ j, j ≠ 2 → (w.setCell ⟨q, 2, none⟩ u).cell? ⟨q, j, none⟩ = w.cell? ⟨q, j, none⟩ := fun j hj => World.cell?_setCell_other _ _ _ _ (by intro e; injection e with _ e2; exact hj e2.symm)
  exact ⟨(o 0 (by decide)).trans h.c0, (o 1 (by decide)).trans h.c1, World.cell?_setCell_same _ _ _ h.c2, (o 3 (by decide)).trans h.c3, fun j => by rw [World.frozen?_setCell]; exact h.fr j⟩
theorem BoxQ.set3 (h : BoxQ w q a b c d) (u : Value) : BoxQ (w.setCell ⟨q, 3, none⟩ u) q a b c u := by
  have o : ∀ j, j ≠ 3 → (w.setCell ⟨q, 3, none⟩ u).cell? ⟨q, j, none⟩ = w.cell? ⟨q, j, none⟩ := fun j hj => World.cell?_setCell_other _ _ _ _ (by intro e; injection e with _ e2; exact hj e2.symm)
  exact ⟨(o 0 (by decide)).trans h.c0, (o 1 (by decide)).trans h.c1, (o 2 (by decide)).trans h.c2, World.cell?_setCell_same _ _ _ h.c3, fun j => by rw [World.frozen?_setCell]; exact h.fr j⟩
theorem BoxQ.new (w : World) (a b c d : Value) : BoxQ (w.alloc (.cells #[a, b, c, d] 53)) w.heap.size a b c d := ⟨by simp, by simp, by simp, by simp, fun j => by simp⟩
theorem BoxQ.drew (h : BoxQ w q a b c d) : BoxQ w.drew q a b c d := ⟨h.c0, h.c1, h.c2, h.c3, h.fr⟩
theorem BoxQ.cells (h : BoxQ w q a b c d) {a' b' c' d' : Value} : (set4q w q a' b' c' d').cell? ⟨q, 0, none⟩ = some a' ∧ (set4q w q a' b' c' d').cell? ⟨q, 1, none⟩ = some b' ∧ (set4q w q a' b' c' d').cell? ⟨q, 2, none⟩ = some c' ∧ (set4q w q a' b' c' d').cell? ⟨q, 3, none⟩ = some d' := set4q_cells h.c0 h.c1 h.c2 h.c3
end
set_option maxHeartbeats 8000000 in
theorem r12one_walk (line : Int) (F : Option Addr) (fs : List Fld) (c : Nat) (A : Option Addr) (ls : List Req) (cr : Nat) (w : World) (hS : Std w)
    (hF : FieldsAt w.heap.size w F fs) (hq : ls.length ≤ 400) (hqs : (freshS (studs ls)).length ≤ 64) (hlz : ∀ x ∈ ls, x.1.size ≤ 9223372036854775807) (hs : ∀ f ∈ fs, f.1.size < 1073741824) (hX : At kReq (· < w.heap.size) w A ls) :
    Calls Tryz.prog 82 #[.agg #[.int .i64 line, .slice F fs.length c], .slice A ls.length cr] w fun e w' => OneQGives fs ls w e w' := by
  by_cases hm : fs.length = 4
  · obtain ⟨fb, fo, rfl, hfb, hfc⟩ := hF (by omega)
    have hk : ∀ k, (h : k < fs.length) → w.cell? ⟨fb, fo + k * 3, none⟩ = some (.string (textAt fs k)) := fun k h => by
      have := (hfc k h).1
      rwa [textC_at] at this
    have f0 := hk 0 (by omega)
    have f1 := hk 1 (by omega)
    have f2 := hk 2 (by omega)
    have f3 := hk 3 (by omega)
    rw [Nat.zero_mul, Nat.add_zero] at f0
    rw [Nat.one_mul] at f1
    rw [show 2 * 3 = 6 from rfl] at f2
    rw [show 3 * 3 = 9 from rfl] at f3
    have hs2 : ∀ k, k < fs.length → (textAt fs k).size < 1073741824 := fun k h => by rw [← textC_at h]; exact hs _ (List.getElem_mem _)
    have hs3 := hs2 3 (by omega)
    have hm2 : ((fs.length : Int) != 4) = false := by simp; omega
    obtain ⟨t0, ht0⟩ : ∃ t0, textAt fs 0 = t0 := ⟨_, rfl⟩
    obtain ⟨t1, ht1⟩ : ∃ t1, textAt fs 1 = t1 := ⟨_, rfl⟩
    obtain ⟨t2, ht2⟩ : ∃ t2, textAt fs 2 = t2 := ⟨_, rfl⟩
    obtain ⟨t3, ht3⟩ : ∃ t3, textAt fs 3 = t3 := ⟨_, rfl⟩
    have hKE : Hid (reqKE fs ls = (if codeB t0 = false then (0, 10) else if codeB t1 = false then (1, 10) else if numS 1 t2 = none then (2, 4) else if (shortV t3).1 ≠ 0 then (3, ((shortV t3).1 : Int)) else if 0 ≤ idxS t1 (shortV t3).2 then (3, 11) else if hasQ ls t0 t1 = true then (-1, 11) else if manyQ ls t0 = true then (-1, 2) else (0, 0))) := by
      refine hide ?_; unfold reqKE; rw [if_neg (show ¬ fs.length ≠ 4 from fun h => h hm), ht0, ht1, ht2, ht3]
    have hOf : Hid (reqOf fs = (t0, t1, (((numE 1 t2).getD 0 : Nat) : Int), (listV t3).2)) := by
      refine hide ?_; unfold reqOf; rw [ht0, ht1, ht2, ht3]
    rw [ht0] at f0
    rw [ht1] at f1
    rw [ht2] at f2
    rw [ht3] at f3 hs3
    clear ht0 ht1 ht2 ht3 hfc hF hs hk hs2
    have hbU : Below w.heap.size w ((w.alloc (.cells #[.int .i64 line, .slice (some ⟨fb, fo, none⟩) fs.length c] 75)).alloc (.cells #[.string ⟨#[]⟩, .string ⟨#[]⟩, .int .i64 0, .slice none 0 0] 53)) := (by repeat (first | exact Below.refl _ _ | refine ext_alloc ?_ _ | refine ext_drewN ?_ _ | refine ext_drew ?_ | refine ext_trans ?_ (by assumption)))
    have hX0 := BoxQ.new (w.alloc (.cells #[.int .i64 line, .slice (some ⟨fb, fo, none⟩) fs.length c] 75)) (.string ⟨#[]⟩) (.string ⟨#[]⟩) (.int .i64 0) (.slice none 0 0)
    have o1 : ((w.alloc (.cells #[.int .i64 line, .slice (some ⟨fb, fo, none⟩) fs.length c] 75)).alloc (.cells #[.string ⟨#[]⟩, .string ⟨#[]⟩, .int .i64 0, .slice none 0 0] 53)).cell? ⟨w.heap.size, 1, none⟩ = some (.slice (some ⟨fb, fo, none⟩) fs.length c) := by simp
    rw [World.size_alloc] at hX0
    obtain ⟨U, hU⟩ : ∃ U, (w.alloc (.cells #[.int .i64 line, .slice (some ⟨fb, fo, none⟩) fs.length c] 75)).alloc (.cells #[.string ⟨#[]⟩, .string ⟨#[]⟩, .int .i64 0, .slice none 0 0] 53) = U := ⟨_, rfl⟩
    rw [hU] at hbU hX0 o1
    obtain ⟨q, hqe⟩ : ∃ q, w.heap.size + 1 = q := ⟨_, rfl⟩
    rw [hqe] at hX0
    have hqU := hX0.lt
    have k0 := (hbU.cell (p := ⟨fb, _, none⟩) hfb).trans f0
    have k1 := (hbU.cell (p := ⟨fb, _, none⟩) hfb).trans f1
    have k2 := (hbU.cell (p := ⟨fb, _, none⟩) hfb).trans f2
    have k3 := (hbU.cell (p := ⟨fb, _, none⟩) hfb).trans f3
    have hfbU : fb < U.heap.size := by omega
    have hl0 : 0 < fs.length := by omega
    have hl1 : 1 < fs.length := by omega
    have hl2 : 2 < fs.length := by omega
    have hl3 : 3 < fs.length := by omega
    have hi1 : (1 : Int) < (fs.length : Int) := by omega
    have hi2 : (2 : Int) < (fs.length : Int) := by omega
    have hi3 : (3 : Int) < (fs.length : Int) := by omega
    have hgq : w.heap.size ≤ q := by omega
    replace hm := hide hm
    replace hU := hide hU
    replace hqe := hide hqe
    replace hX0 := hide hX0
    have hkk := hide (And.intro k2 k3)
    clear f0 f1 f2 f3 k2 k3
    go_enter Tryz.func82, Tryz.ntmps82
    go_wp2_with fail
    rw [hU.out, hqe.out]
    go_region
    have hbV : Below w.heap.size w (U.alloc (.cells #[.string t0, .string t1, .int .i64 0, .slice none 0 0] 53)).drew := ext_drew (ext_alloc hbU _)
    have hUV : Below U.heap.size U (U.alloc (.cells #[.string t0, .string t1, .int .i64 0, .slice none 0 0] 53)).drew := ext_drew (ext_alloc (Below.refl _ _) _)
    have hB0 := (BoxQ.new U (.string t0) (.string t1) (.int .i64 0) (.slice none 0 0)).drew
    obtain ⟨V, hV⟩ : ∃ V, (U.alloc (.cells #[.string t0, .string t1, .int .i64 0, .slice none 0 0] 53)).drew = V := ⟨_, rfl⟩
    rw [hV] at hbV hUV hB0 ⊢
    clear hV
    have hX1 := hX0.out.later hUV
    obtain ⟨k2, k3⟩ := hkk.out
    replace k2 := cell_later hUV k2
    replace k3 := cell_later hUV k3
    have hqr : q ≠ U.heap.size := by omega
    have hfr : fb ≠ U.heap.size := by omega
    obtain ⟨rb, hrb⟩ : ∃ rb, U.heap.size = rb := ⟨_, rfl⟩
    rw [hrb] at hB0 hqr hfr ⊢
    have hrw : w.heap.size ≤ rb := by omega
    have hqV := hX1.lt
    have hrV := hB0.lt
    have hfV : fb < V.heap.size := by have := hUV.size; omega
    have hX0 := hX1
    have hBB := hide hB0
    obtain ⟨b0, b1, b2, b3, bf⟩ := hB0
    have bf2 := bf 2
    clear o1 hU hqe hkk hUV hrb hX1 hbU k0 k1 bf hfbU
    have hXX := hide hX0
    obtain ⟨x0, x1, x2, x3, xf⟩ := hX0
    have xf0 := xf 0
    have xf1 := xf 1
    have xf2 := xf 2
    have xf3 := xf 3
    go_wp2_with fail
    refine (r3valid_walk t0 _).mono ?_
    rintro e w1 ⟨rfl, rfl⟩
    cases hv0 : codeB t0
    · have hK : Hid (reqKE fs ls = (0, 10)) := hide (by rw [hKE.out, hv0, if_pos rfl])
      clear hKE hOf hv0 hX hqs hlz
      go_wp2
      obtain ⟨c0, c1, c2, c3⟩ := hXX.out.cells (a' := .string t0) (b' := .string t1) (c' := .int .i64 0) (d' := .slice none 0 0)
      refine end_req3 rfl q _ _ _ _ _ _ rfl rfl rfl rfl c0 c1 c2 c3 ?_
      exact req_fin (B := V.heap.size) (nn := 0) (l := []) hK.out Own.nil (fun h => by cases h) hbV hgq hqV
    · have hKE1 := hKE.out
      rw [hv0, if_neg (by decide)] at hKE1
      replace hKE1 := hide hKE1
      clear hKE hv0
      go_wp2_with fail
      refine (r3valid_walk t1 _).mono ?_
      rintro e w1 ⟨rfl, rfl⟩
      cases hv1 : codeB t1
      · have hK : Hid (reqKE fs ls = (1, 10)) := hide (by rw [hKE1.out, hv1, if_pos rfl])
        clear hKE1 hOf hv1 hX hqs hlz
        go_wp2
        obtain ⟨c0, c1, c2, c3⟩ := hXX.out.cells (a' := .string t0) (b' := .string t1) (c' := .int .i64 0) (d' := .slice none 0 0)
        refine end_req3 rfl q _ _ _ _ _ _ rfl rfl rfl rfl c0 c1 c2 c3 ?_
        exact req_fin (B := V.heap.size) (nn := 0) (l := []) hK.out Own.nil (fun h => by cases h) hbV hgq hqV
      · have hKE2 := hKE1.out
        rw [hv1, if_neg (by decide)] at hKE2
        replace hKE2 := hide hKE2
        clear hKE1 hv1
        go_wp2_with fail
        refine (r3digitsT_walk t2 1 (by decide) _).mono ?_
        rintro e w1 ⟨rfl, rfl⟩
        cases hn : numS 1 t2 with
        | none =>
          have hK : Hid (reqKE fs ls = (2, 4)) := hide (by rw [hKE2.out, hn, if_pos rfl])
          have hz := numZ_numS.2 hn
          clear hKE2 hOf hn hX hqs hlz
          rcases hz with hz | hz
          · rw [hz, show digV none = .tuple #[.int .i64 0, .bool false] from rfl]
            clear hz
            go_wp2
            obtain ⟨c0, c1, c2, c3⟩ := hXX.out.cells (a' := .string t0) (b' := .string t1) (c' := .int .i64 0) (d' := .slice none 0 0)
            refine end_req3 rfl q _ _ _ _ _ _ rfl rfl rfl rfl c0 c1 c2 c3 ?_
            exact req_fin (B := V.heap.size) (nn := 0) (l := []) hK.out Own.nil (fun h => by cases h) hbV hgq hqV
          · rw [hz, show digV (some 0) = .tuple #[.int .i64 0, .bool true] from rfl]
            clear hz
            go_wp2
            obtain ⟨c0, c1, c2, c3⟩ := hXX.out.cells (a' := .string t0) (b' := .string t1) (c' := .int .i64 0) (d' := .slice none 0 0)
            refine end_req3 rfl q _ _ _ _ _ _ rfl rfl rfl rfl c0 c1 c2 c3 ?_
            exact req_fin (B := V.heap.size) (nn := 0) (l := []) hK.out Own.nil (fun h => by cases h) hbV hgq hqV
        | some nv =>
          have hz := numS_some hn
          have hOf1 : Hid (reqOf fs = (t0, t1, (nv : Int), (listV t3).2)) := hide (by rw [hOf.out, show numE 1 t2 = some nv from (numS_numE hn)]; rfl)
          have hKE3 := hKE2.out
          rw [hn, if_neg (by simp)] at hKE3
          replace hKE3 := hide hKE3
          obtain ⟨hz1, hz2⟩ := hz
          rw [hz1, show digV (some nv) = .tuple #[.int .i64 (nv : Int), .bool true] from rfl]
          have hni : ((nv : Int) == 0) = false := by simp; omega
          have hni2 : ¬ (nv : Int) = 0 := by omega
          clear hKE2 hOf hn hz1 hz2
          obtain ⟨V2, hV2⟩ : ∃ V2, V.setCell ⟨rb, 2, none⟩ (.int .i64 (nv : Int)) = V2 := ⟨_, rfl⟩
          have hbV2 : Below w.heap.size w V2 := by rw [← hV2]; exact hbV.setCell (p := ⟨rb, 2, none⟩) hrw _
          have hsz2 : V2.heap.size = V.heap.size := by rw [← hV2]; exact World.size_setCell _ _ _
          have hX2 : BoxQ V2 q (.string ⟨#[]⟩) (.string ⟨#[]⟩) (.int .i64 0) (.slice none 0 0) := by rw [← hV2]; exact hXX.out.other hqr _
          have hB2 : BoxQ V2 rb (.string t0) (.string t1) (.int .i64 (nv : Int)) (.slice none 0 0) := by rw [← hV2]; exact hBB.out.set2 _
          have k3' : V2.cell? ⟨fb, fo + 9, none⟩ = some (.string t3) := by rw [← hV2]; exact (World.cell?_setCell_other _ _ _ _ (by intro e; injection e with e1 _; exact hfr e1.symm)).trans k3
          replace hV2 := hide hV2
          replace hX2 := hide hX2
          replace hB2 := hide hB2
          have hcS := r7short_walk t3 V2 (hS.after hbV2) hs3
          have hso := fun h => short_ok (t := t3) h
          obtain ⟨⟨s3, l3⟩, hsv⟩ : ∃ r, shortV t3 = r := ⟨_, rfl⟩
          have hKE4 := hKE3.out
          rw [hsv] at hcS hso hKE4
          dsimp only at hso hKE4
          replace hKE4 := hide hKE4
          replace hso := hide hso
          replace k3' := hide k3'
          clear hsv hKE3
          go_wp2_with fail
          rw [hV2.out]
          refine hcS.mono ?_
          rintro e w5 ⟨v, rfl, hown, hb5⟩
          dsimp only at hown ⊢
          obtain ⟨A6, c6, rfl⟩ := hown.form
          have hat := hown.any'
          have hbw5 : Below w.heap.size w w5 := hbV2.trans (hb5.mono (by omega))
          have hX5 := hX2.out.later hb5
          have hB5 := hB2.out.later hb5
          have hw5z := hb5.size
          clear hcS hV2 hbV k2 k3 k3' b0 b1 b2 b3 bf2 x0 x1 x2 x3 xf xf0 xf1 xf2 xf3 hXX hBB hX2 hB2 hb5
          have hXX := hide hX5
          have hBB := hide hB5
          have hX0 := hX5
          obtain ⟨b0, b1, b2, b3, bf⟩ := hB5
          have bf3 := bf 3
          obtain ⟨x0, x1, x2, x3, xf⟩ := hX0
          have xf0 := xf 0
          have xf1 := xf 1
          have xf2 := xf 2
          have xf3 := xf 3
          have hq5 : q < w5.heap.size := by omega
          have hr5 : rb < w5.heap.size := by omega
          clear hX5
          by_cases h3 : s3 = 0
          · subst h3
            have hle := hso.out rfl
            have hOf2 : Hid (reqOf fs = (t0, t1, (nv : Int), l3)) := hide (by rw [hOf1.out, hle])
            have hKE5 := hKE4.out
            rw [if_neg (by simp)] at hKE5
            have hhas := r2has_walk A6 l3 c6 t1 w5 (by have := hown.le; omega) hat.any
            obtain ⟨L3, hL3⟩ : ∃ L3, l3.length = L3 := ⟨_, rfl⟩
            rw [hL3] at hhas hown ⊢
            clear hKE4 hOf1 hso hle hL3 hat
            by_cases hd : 0 ≤ idxS t1 l3
            · have hK : Hid (reqKE fs ls = (3, 11)) := hide (by rw [hKE5, if_pos hd])
              rw [decide_eq_true hd] at hhas
              clear hKE5 hOf2 hX hqs hlz hd hown
              go_wp2_with (go_at_call 53; refine hhas.mono ?_; rintro e w7 ⟨rfl, rfl⟩)
              obtain ⟨c0, c1, c2, c3⟩ := hXX.out.cells (a' := .string t0) (b' := .string t1) (c' := .int .i64 (nv : Int)) (d' := .slice none 0 0)
              refine end_req3 rfl q _ _ _ _ _ _ rfl rfl rfl rfl c0 c1 c2 c3 ?_
              exact req_fin (B := w5.heap.size) (l := []) hK.out Own.nil (fun h => by cases h) hbw5 hgq hq5
            · rw [if_neg hd] at hKE5
              rw [decide_eq_false hd] at hhas
              replace hKE5 := hide hKE5
              obtain ⟨V7, hV7⟩ : ∃ V7, w5.setCell ⟨rb, 3, none⟩ (.slice A6 L3 c6) = V7 := ⟨_, rfl⟩
              have hb57 : Only rb w5 V7 := by rw [← hV7]; exact only_setCell (Only.refl rb w5) (p := ⟨rb, 3, none⟩) (Or.inl rfl) _
              have hown7 := hown.noting hb57 (by omega)
              have hbw7 : Below w.heap.size w V7 := by rw [← hV7]; exact hbw5.setCell (p := ⟨rb, 3, none⟩) hrw _
              have hsz7 : V7.heap.size = w5.heap.size := by rw [← hV7]; exact World.size_setCell _ _ _
              have hX7 : BoxQ V7 q (.string ⟨#[]⟩) (.string ⟨#[]⟩) (.int .i64 0) (.slice none 0 0) := by rw [← hV7]; exact hXX.out.other hqr _
              have hB7 : BoxQ V7 rb (.string t0) (.string t1) (.int .i64 (nv : Int)) (.slice A6 L3 c6) := by rw [← hV7]; exact hBB.out.set3 _
              have hL7 := hX.below hbw7
              have hfind := r12find_walk A ls cr t0 t1 V7 (by omega) hL7.any
              have hstd := r12studs_walk A ls cr V7 (by omega) hlz hL7.any
              obtain ⟨N, hN⟩ : ∃ N, ls.length = N := ⟨_, rfl⟩
              have hq4 : N ≤ 400 := by rw [← hN]; exact hq
              rw [hN] at hfind hstd ⊢
              have hix := @idxQ_pos ls t0 t1
              obtain ⟨ix, hixe⟩ : ∃ ix, idxQ t0 t1 ls = ix := ⟨_, rfl⟩
              rw [hixe] at hfind hix
              have hmany : Hid (manyQ ls t0 = (decide (N = 400) || (decide ((freshS (studs ls)).length = 64) && decide (¬ 0 ≤ idxS t0 (studsV ls))))) := hide (by
                unfold manyQ
                have e1 : (0 ≤ idxS t0 (studsV ls)) ↔ (0 ≤ idxS t0 (studs ls)) := stR_mem (studs ls) t0
                rw [hN, show decide (400 ≤ N) = decide (N = 400) from decide_eq_decide.2 (by omega), show decide (64 ≤ (freshS (studs ls)).length) = decide ((freshS (studs ls)).length = 64) from decide_eq_decide.2 (by omega)]
                congr 2
                exact decide_eq_decide.2 (by rw [e1]))
              have hsl : (studsV ls).length = (freshS (studs ls)).length := stR_len (studs ls)
              obtain ⟨sv, hsv⟩ : ∃ sv, studsV ls = sv := ⟨_, rfl⟩
              obtain ⟨nf, hnf⟩ : ∃ nf, (freshS (studs ls)).length = nf := ⟨_, rfl⟩
              rw [hsv] at hstd hmany hsl
              rw [hnf] at hmany hsl hqs
              replace hX7 := hide hX7
              replace hB7 := hide hB7
              replace hV7 := hide hV7
              clear hXX hBB hX hL7 hN hixe hsv hnf hd hown hb57 hlz hq
              go_upto_region 19 with (go_at_call 53; refine hhas.mono ?_; rintro e w7 ⟨rfl, rfl⟩)
              rw [hV7.out]
              clear x0 x1 x2 x3 xf xf0 xf1 xf2 xf3 b0 b1 b2 b3 bf bf3 hV7 hhas
              have hX0 := hX7.out
              obtain ⟨b0, b1, b2, b3, bf⟩ := hB7.out
              have hB7' := hB7
              obtain ⟨x0, x1, x2, x3, xf⟩ := hX0
              have xf0 := xf 0
              have xf1 := xf 1
              have xf2 := xf 2
              have xf3 := xf 3
              have hq7 : q < V7.heap.size := by omega
              by_cases hi : 0 ≤ ix
              · have hK : Hid (reqKE fs ls = (-1, 11)) := hide (by rw [hKE5.out, if_pos (hix.1 hi)])
                clear hKE5 hOf2 hix hstd hmany hsl hqs
                go_wp2_with (go_at_call 54; refine hfind.mono ?_; rintro e w8 ⟨rfl, rfl⟩)
                obtain ⟨c0, c1, c2, c3⟩ := hX7.out.cells (a' := .string t0) (b' := .string t1) (c' := .int .i64 (nv : Int)) (d' := .slice A6 L3 c6)
                refine end_req3 rfl q _ _ _ _ _ _ rfl rfl rfl rfl c0 c1 c2 c3 ?_
                exact req_fin (B := q + 1) hK.out (hown7.lower (by omega)) (fun h => by cases h) hbw7 hgq (by omega)
              · have hKE6 := hKE5.out
                rw [if_neg (fun hh => hi (hix.2 hh)), hmany.out] at hKE6
                have hif : (0 ≤ ix) = False := eq_false hi
                replace hKE6 := hide hKE6
                clear hKE5 hix hmany
                go_wp2_with (go_at_call 54; refine hfind.mono ?_; rintro e w8 ⟨rfl, rfl⟩)
                refine hstd.mono ?_
                clear hfind hstd
                rintro e w8 ⟨v8, rfl, hs8, hb8⟩
                obtain ⟨A8, c8, rfl⟩ := hs8.form
                have hhas := r2has_walk A8 sv c8 t0 w8 (by have := hs8.le; omega) hs8.any'.any
                rw [hsl] at hhas ⊢
                have hX8 := hX7.out.later hb8
                have hB8 := hB7.out.later hb8
                have hown8 := (hown7.later hb8).lower (C := q + 1) (by omega)
                have hbw8 : Below w.heap.size w w8 := ext_trans hbw7 hb8
                clear x0 x1 x2 x3 xf xf0 xf1 xf2 xf3 b0 b1 b2 b3 bf hX7 hB7 hB7' hown7 hbw7 hs8 hsl
                have hXX := hide hX8
                have hX0 := hX8
                obtain ⟨b0, b1, b2, b3, bf⟩ := hB8
                obtain ⟨x0, x1, x2, x3, xf⟩ := hX0
                have xf0 := xf 0
                have xf1 := xf 1
                have xf2 := xf 2
                have xf3 := xf 3
                have hq8 : q < w8.heap.size := by have := hb8.size; omega
                have hr8 : rb < w8.heap.size := by have := hb8.size; omega
                clear hb8
                by_cases g1 : N = 400
                · have hK : Hid (reqKE fs ls = (-1, 2)) := hide (by rw [hKE6.out, decide_eq_true g1]; rfl)
                  have g1i : ((N : Int) == 400) = true := by simp; omega
                  have g1j : (N : Int) = 400 := by omega
                  clear hKE6 hOf2 hhas g1
                  go_wp2_with fail
                  obtain ⟨c0, c1, c2, c3⟩ := hXX.out.cells (a' := .string t0) (b' := .string t1) (c' := .int .i64 (nv : Int)) (d' := .slice A6 L3 c6)
                  refine end_req3 rfl q _ _ _ _ _ _ rfl rfl rfl rfl c0 c1 c2 c3 ?_
                  exact req_fin (B := q + 1) hK.out hown8 (fun h => by cases h) hbw8 hgq (by omega)
                · have g1i : ((N : Int) == 400) = false := by simp; omega
                  have g1j : ¬ (N : Int) = 400 := by omega
                  by_cases g2 : nf = 64
                  · have g2i : ((nf : Int) == 64) = true := by simp; omega
                    have g2j : (nf : Int) = 64 := by omega
                    by_cases g3 : 0 ≤ idxS t0 sv
                    · have hK : Hid (reqKE fs ls = (0, 0)) := hide (by rw [hKE6.out, decide_eq_false g1, decide_eq_true g2, decide_eq_false (show ¬ idxS t0 sv < 0 by omega)]; rfl)
                      rw [decide_eq_true g3] at hhas
                      clear hKE6 g1 g2 g3
                      go_wp2_with (go_at_call 53; refine hhas.mono ?_; rintro e w9 ⟨rfl, rfl⟩)
                      obtain ⟨c0, c1, c2, c3⟩ := hXX.out.cells (a' := .string t0) (b' := .string t1) (c' := .int .i64 (nv : Int)) (d' := .slice A6 L3 c6)
                      refine end_req3 rfl q _ _ _ _ _ _ rfl rfl rfl rfl c0 c1 c2 c3 ?_
                      exact req_fin (B := q + 1) hK.out hown8 (fun _ => hOf2.out.symm) hbw8 hgq (by omega)
                    · have hK : Hid (reqKE fs ls = (-1, 2)) := hide (by rw [hKE6.out, decide_eq_false g1, decide_eq_true g2, decide_eq_true (show idxS t0 sv < 0 by omega)]; rfl)
                      rw [decide_eq_false g3] at hhas
                      clear hKE6 hOf2 g1 g2 g3
                      go_wp2_with (go_at_call 53; refine hhas.mono ?_; rintro e w9 ⟨rfl, rfl⟩)
                      obtain ⟨c0, c1, c2, c3⟩ := hXX.out.cells (a' := .string t0) (b' := .string t1) (c' := .int .i64 (nv : Int)) (d' := .slice A6 L3 c6)
                      refine end_req3 rfl q _ _ _ _ _ _ rfl rfl rfl rfl c0 c1 c2 c3 ?_
                      exact req_fin (B := q + 1) hK.out hown8 (fun h => by cases h) hbw8 hgq (by omega)
                  · have g2i : ((nf : Int) == 64) = false := by simp; omega
                    have g2j : ¬ (nf : Int) = 64 := by omega
                    have hK : Hid (reqKE fs ls = (0, 0)) := hide (by rw [hKE6.out, decide_eq_false g1, decide_eq_false g2]; rfl)
                    clear hKE6 hhas g1 g2
                    go_wp2_with fail
                    obtain ⟨c0, c1, c2, c3⟩ := hXX.out.cells (a' := .string t0) (b' := .string t1) (c' := .int .i64 (nv : Int)) (d' := .slice A6 L3 c6)
                    refine end_req3 rfl q _ _ _ _ _ _ rfl rfl rfl rfl c0 c1 c2 c3 ?_
                    exact req_fin (B := q + 1) hK.out hown8 (fun _ => hOf2.out.symm) hbw8 hgq (by omega)
          · have hK : Hid (reqKE fs ls = (3, (s3 : Int))) := hide (by rw [hKE4.out, if_pos h3])
            have h3a : ((s3 : Int) == 0) = false := by simp; omega
            have h3b : ((s3 : Int) != 0) = true := by simp; omega
            have h3c : ¬ (s3 : Int) = 0 := by omega
            replace h3 := hide h3
            clear hKE4 hOf1 hso hX hqs hlz hown hat
            go_wp2_with fail
            obtain ⟨c0, c1, c2, c3⟩ := hXX.out.cells (a' := .string t0) (b' := .string t1) (c' := .int .i64 (nv : Int)) (d' := .slice none 0 0)
            refine end_req3 rfl q _ _ _ _ _ _ rfl rfl rfl rfl c0 c1 c2 c3 ?_
            exact req_fin (B := w5.heap.size) (l := []) hK.out Own.nil (fun h => absurd h h3c) hbw5 hgq hq5
  · have hk : reqKE fs ls = (-1, 9) := if_pos hm
    have hm2 : ((fs.length : Int) != 4) = true := by simp; omega
    clear hF hX hs hS hlz hqs hq
    replace hm := hide hm
    go_enter Tryz.func82, Tryz.ntmps82
    go_wp2
    refine end_req3 rfl (w.heap.size + 1) (.string ⟨#[]⟩) (.string ⟨#[]⟩) (.int .i64 0) (.slice none 0 0) _ _ rfl rfl rfl rfl ?_ ?_ ?_ ?_ ⟨_, _, _, [], _, by rw [hk]; rfl, Own.nil, (fun h => by rw [hk] at h; cases h), (by repeat (first | exact Below.refl _ _ | refine ext_alloc ?_ _ | refine ext_drewN ?_ _ | refine ext_drew ?_ | refine ext_trans ?_ (by assumption)))⟩
    · simp
    · simp
    · simp
    · simp
end Go.Proofs.YthejgholpkeldaaGreatDoor

namespace Go.Proofs.YthejgholpkeldaaGreatDoor
open Go.RowKit
set_option maxRecDepth 100000

theorem reqs_err {line : Int} {fs : List Fld} {st : RG Req} (h : (reqKE fs st.ls).2 ≠ 0) : gathStep 4 reqP reqOf st (line, fs) = ⟨st.ls, st.lines, st.ps ++ [(line, placeOf fs (reqKE fs st.ls).1, (reqKE fs st.ls).2)]⟩ := by rw [req_step, if_neg h]
theorem reqs_ok {line : Int} {fs : List Fld} {st : RG Req} (h : (reqKE fs st.ls).2 = 0) : gathStep 4 reqP reqOf st (line, fs) = ⟨st.ls ++ [reqOf fs], st.lines ++ [line], st.ps⟩ := by rw [req_step, if_pos h]
set_option maxHeartbeats 8000000 in
theorem r12lines_walk (A : Option Addr) (rs : List Rec) (cap : Nat) (w : World) (hS : Std w) (hR : RecsAt w.heap.size w A rs) (hN : rs.length ≤ 4000000000000) (hs : ∀ r ∈ rs, ∀ f ∈ r.2, f.1.size < 1073741824) :
    Calls Tryz.prog 57 #[.slice A rs.length cap] w fun e w' => ReadQGives rs w e w' := by
  obtain ⟨iP, hiP, hP0, hP1, hP2⟩ := info_parts infoProb
  obtain ⟨N, hNN⟩ : ∃ N, rs.length = N := ⟨_, rfl⟩
  rw [hNN] at hN ⊢
  replace hNN := hide hNN
  replace hs := hide hs
  go_enter Tryz.func57, Tryz.ntmps57
  go_wp2
  go_loopw [5, 6, 7, 8] (fun v6 v7 v8 i wr => ReadQLoop rs w v6 v7 v8 i wr) (fun _ _ _ i _ => N - (intOf i).toNat)
  case atStart => exact ⟨0, Nat.zero_le _, rfl, Own.nil, Own.nil, World.ownsRow_nil _ _ _ _, Below.refl _ _⟩
  case round =>
    obtain ⟨j, hj, rfl, hG⟩ := hrel
    rw [hNN.out] at hj
    by_cases hlt : j < N
    · obtain ⟨r, hr⟩ : ∃ r, rs[j]? = some r := ⟨_, List.getElem?_eq_getElem (by rw [hNN.out]; exact hlt)⟩
      obtain ⟨rb, off, rfl, hrb, hcell⟩ := hR (by rw [hNN.out]; omega)
      obtain ⟨F, c, kw0, kw1, hFw⟩ := hcell j r hr
      have hsr := hide (hs.out r (List.mem_of_getElem? hr))
      have hstep := hide (readAll_take (n := 4) (P := reqP) (f := reqOf) rs j r hr)
      obtain ⟨st, hst⟩ : ∃ st, readAll 4 reqP reqOf (rs.take j) = st := ⟨_, rfl⟩
      have hlen := readReq_len (rs.take j)
      have hshort := readReq_short (rs.take j) (fun r hr => hs.out r (List.mem_of_mem_take hr))
      have hstu := readReq_studs (rs.take j)
      rw [List.length_take, hNN.out] at hlen
      unfold readReq at hG hlen hshort hstu
      rw [hst] at hG hlen hstep hshort hstu
      obtain ⟨n1, n2, n3⟩ := hlen
      obtain ⟨line, fs⟩ := r
      dsimp only at kw0 kw1 hFw hsr
      have k0 := (hG.below.cell (p := ⟨rb, _, none⟩) hrb).trans kw0
      have k1 := (hG.below.cell (p := ⟨rb, _, none⟩) hrb).trans kw1
      have hF := hFw.below hG.below
      replace kw0 := hide kw0
      clear kw1 hFw
      have hz := hG.below.size
      have hrb2 : rb < wr.heap.size := by omega
      have h3N : st.ps.length ≤ 4000000000000 := by omega
      have hSr := hS.after hG.below
      obtain ⟨A6, c6, hv6⟩ := hG.ls.form
      subst hv6
      have hat := hG.ls.any'
      have hcall := r12one_walk line F fs c A6 st.ls c6 wr hSr (hF.more hz) n1 hstu hshort hsr.out hat
      have herr := fun h => reqs_err (line := line) (fs := fs) (st := st) h
      have hok := fun h => reqs_ok (line := line) (fs := fs) (st := st) h
      have hpl := req_place fs st.ls
      unfold OneQGives at hcall
      obtain ⟨⟨k, er⟩, hke⟩ : ∃ p, reqKE fs st.ls = p := ⟨_, rfl⟩
      rw [hke] at hcall herr hok hpl
      dsimp only at hcall herr hok hpl
      replace herr := hide herr
      replace hok := hide hok
      replace hcall := hide hcall
      replace n2 := hide n2
      have hj0 : (0 : Int) ≤ (j : Int) := by omega
      have hj1 : (j : Int) < (N : Int) := by omega
      clear hcell hr hst hR n3 hke hat hSr hshort hstu
      go_wp2_with fail
      refine hcall.out.mono ?_
      clear hcall
      rintro e w2 ⟨z, co, nn, l, v, rfl, hown, hcd, hb2⟩
      obtain ⟨A9, c9, rfl⟩ := hown.form
      have hG2 := hG.later hb2
      have hown2 := hown.lower hz
      replace k0 := cell_later hb2 k0
      replace k1 := cell_later hb2 k1
      have hF2 := (hF.below (hb2.mono hz)).more hG2.below.size
      have hrb3 : rb < w2.heap.size := by have := hb2.size; omega
      clear hG hown hF hb2
      by_cases he : er = 0
      · subst he
        have hcur := hcd rfl
        have hst2 := hide (hstep.out.trans (hok.out rfl))
        rw [← hcur] at hst2
        have n32 : st.lines.length ≤ 100000 := by rw [n2.out]; omega
        have n31 : st.ls.length ≤ 100000 := by omega
        clear hcur hcd hstep herr hok hpl hF2 k1
        go_upto_region 10 with fail
        have hG4 := hG2.alloc (.cells #[.string z, .string co, .int .i64 nn, .slice A9 l.length c9] 53)
        have hown4 := hown2.alloc (.cells #[.string z, .string co, .int .i64 nn, .slice A9 l.length c9] 53)
        have x0 : (w2.alloc (.cells #[.string z, .string co, .int .i64 nn, .slice A9 l.length c9] 53)).cell? ⟨w2.heap.size, 0, none⟩ = some (.string z) := by simp
        have x1 : (w2.alloc (.cells #[.string z, .string co, .int .i64 nn, .slice A9 l.length c9] 53)).cell? ⟨w2.heap.size, 1, none⟩ = some (.string co) := by simp
        have x2 : (w2.alloc (.cells #[.string z, .string co, .int .i64 nn, .slice A9 l.length c9] 53)).cell? ⟨w2.heap.size, 2, none⟩ = some (.int .i64 nn) := by simp
        have x3 : (w2.alloc (.cells #[.string z, .string co, .int .i64 nn, .slice A9 l.length c9] 53)).cell? ⟨w2.heap.size, 3, none⟩ = some (.slice A9 l.length c9) := by simp
        generalize w2.heap.size = g at *
        generalize w2.alloc (.cells #[.string z, .string co, .int .i64 nn, .slice A9 l.length c9] 53) = w4 at *
        clear k0 hG2 hown2
        go_upto_region 11 with (at_builtin; refine wpg_ls apart_req apd_reqs (by decide) (by decide) rfl _ _ rfl rfl (hG4.alloc _) n31 ⟨w4.heap.size, 0, none⟩ 1 rfl (z, co, nn, l) [.string z, .string co, .int .i64 nn, .slice A9 l.length c9] (req_rep (Own.rep (hown4.alloc _))) (World.news_of_block (cs := #[.string z, .string co, .int .i64 nn, .slice A9 l.length c9]) (t := 53) (fr := (0, 0)) (heap_alloc_new _ _)) ?_; intro v5 w5 hG5)
        have k0 := (hG5.below.cell (p := ⟨rb, _, none⟩) hrb).trans kw0.out
        have hrb5 : rb < w5.heap.size := by have := hG5.below.size; omega
        clear hG4 hown4 x0 x1 x2 x3
        go_wp2_with (at_builtin; refine wpg_ins apart_req rfl _ _ rfl rfl (hG5.alloc _) n32 ⟨w5.heap.size, 0, none⟩ 1 rfl line (World.news_of_block (cs := #[.int .i64 line]) (t := 3) (fr := (0, 0)) (heap_alloc_new _ _)) ?_; intro v6 w6 hG6)
        clear hG5 k0
        go_roundw
        case rel => exact ⟨j + 1, by rw [hNN.out]; omega, by go_num, by unfold readReq; rw [hst2.out]; exact hG6⟩
        case measure => simp [intOf]; omega
      · have he2 : (er != 0) = true := by simpa using he
        have hst2 := hide (hstep.out.trans (herr.out he))
        have hk : k < fs.length := hpl
        replace he := hide he
        clear hstep herr hok hcd hpl hown2
        go_wp2_with fail
        refine (r7Found_walk line F fs c k er _ ((hF2.below (ext_alloc (Below.refl _ _) _)).more (by rw [World.size_alloc]; omega)) hk).mono ?_
        rintro e w3 ⟨rfl, hb3⟩
        have hG3 := (hG2.alloc _).later hb3
        have hz3 := hG3.below.size
        clear hG2 hF2 hb3 k0 k1
        go_wp2_with (at_builtin; refine wpList_append_own _ rfl _ _ 47 rfl w.heap.size 102 iP (.agg #[.int .i64 0, .int .i64 0, .int .i64 0, .int .i64 0]) 4 32 Tryz.underlying47 hiP hP0 hP1 hP2 rfl (by decide) _ _ _ rfl (hG3.alloc _).ps ⟨w3.heap.size, 0, none⟩ 1 1 (encP (line, placeOf fs k, er)) rfl rfl (new_prob _ _ _ _ _) (one_prob _) ?c3 ?c4 ?c5 ?_)
        case c3 => unfold maxLen; omega
        case c4 => omega
        case c5 => rw [World.size_alloc]; omega
        intro v' w4 hPn hgrow _
        have hGn := (hG3.alloc _).prob (p := (line, placeOf fs k, er)) apart_req hgrow hPn
        clear hG3 hPn hgrow
        go_wp2
        go_roundw
        case rel => exact ⟨j + 1, by rw [hNN.out]; omega, by go_num, by unfold readReq; rw [hst2.out]; exact hGn⟩
        case measure => simp [intOf]; omega
    · obtain rfl : j = N := by omega
      have hall : Hid (rs.take j = rs) := hide (by rw [← hNN.out]; exact List.take_length)
      rw [hall.out] at hG
      clear hall
      go_wp2
      go_ret3
      exact ⟨_, _, _, rfl, hG⟩
theorem r12Read_walk (A : Option Addr) (rs : List Rec) (cap : Nat) (w : World) (hS : Std w) (hR : RecsAt w.heap.size w A rs) (hN : rs.length ≤ 4000000000000) (hs : ∀ r ∈ rs, ∀ f ∈ r.2, f.1.size < 1073741824) :
    Calls Tryz.prog 31 #[.slice A rs.length cap] w fun e w' => ReqReads rs w e w' := by
  have hcall := r12lines_walk A rs cap w hS hR hN hs
  clear hR hN hs hS
  obtain ⟨N, hNN⟩ : ∃ N, rs.length = N := ⟨_, rfl⟩
  rw [hNN] at hcall ⊢
  clear hNN
  go_enter Tryz.func31, Tryz.ntmps31
  go_wp2_with fail
  refine hcall.mono ?_
  clear hcall
  rintro e w' ⟨v6, v7, v8, rfl, hG⟩
  go_wp2
  go_ret2
  exact ⟨_, _, rfl, hG.ls, hG.ps, hG.below⟩
end Go.Proofs.YthejgholpkeldaaGreatDoor

namespace Go.Proofs.YthejgholpkeldaaGreatDoor
open Go.RowKit
set_option maxRecDepth 100000

set_option maxHeartbeats 16000000 in
theorem r12val_walk (A : Option Addr) (l : List Req) (c : Nat) (w : World) (hc : l.length ≤ 9223372036854775807) (hm : ReqShort l) (h : At kReq AnyB w A l) :
    Calls Tryz.prog 27 #[.slice A l.length c] w fun e w' => e = .returned (.int .i64 (validQ l : Nat)) ∧ Below w.heap.size w w' := by
  obtain ⟨N, hN⟩ : ∃ N, l.length = N := ⟨_, rfl⟩
  obtain ⟨V, hV⟩ : ∃ V, validQ l = V := ⟨_, rfl⟩
  have hsl : Hid ((studs l).length = N) := hide (by rw [← hN]; exact List.length_map _)
  rw [hV]
  unfold validQ at hV
  rw [hN] at hc hV ⊢
  by_cases h4 : 400 < N
  · rw [if_pos h4] at hV
    subst hV
    have h4i : (400 : Int) < (N : Int) := by omega
    clear h hm hN hsl h4
    go_enter Tryz.func27, Tryz.ntmps27
    go_wp2_with fail
    go_ret
    exact ⟨rfl, Below.refl _ _⟩
  · rw [if_neg h4] at hV
    have h4i : ¬ (400 : Int) < (N : Int) := by omega
    have hN4 : N ≤ 400 := by omega
    replace hV := hide hV
    replace hN := hide hN
    replace hm := hide hm
    clear h4
    go_enter Tryz.func27, Tryz.ntmps27
    go_wp2_with fail
    go_loopw [3, 4] (fun u v wr => ∃ i : Nat, i ≤ N ∧ v = .int .i64 i ∧ Hid (reqErr l i = 0) ∧ Own kStr 9 [] 0 w.heap.size wr u (freshS ((studs l).take i)) ∧ Below w.heap.size w wr) (fun _ v _ => N - (intOf v).toNat)
    case atStart => exact ⟨0, Nat.zero_le _, rfl, hide rfl, Own.nil, Below.refl _ _⟩
    case round =>
      obtain ⟨i, hi, rfl, ho, hown, hb⟩ := hrel
      by_cases hlt : i < N
      · obtain ⟨x0, hx0⟩ : ∃ x, l[i]? = some x := ⟨_, List.getElem?_eq_getElem (by rw [hN.out]; exact hlt)⟩
        have hat := h.later hb
        obtain ⟨kb, off, F, c3, rfl, -, hkb, ⟨q0, q1, q2, q3⟩, l3, a3⟩ := hat.req hx0
        obtain ⟨m1, m3⟩ := hm.out x0 (List.mem_of_getElem? hx0)
        have hsn := studs_take hx0
        have hidx := idxQ_lt hx0
        have hdup : ∀ e, e ≠ 0 → reqE x0 (l.take i) = e → Hid (V = e) := fun e he h2 => hide (by rw [← hV.out]; exact req_end hx0 ho.out h2 he hlt)
        have hnxt : reqE x0 (l.take i) = 0 → Hid (reqErr l (i + 1) = 0) := fun h2 => hide (req_on hx0 ho.out h2)
        have hfin : ∀ e, e ≠ 0 → reqEx x0 = e → Hid (V = e) := fun e he h2 => hdup e he (by unfold reqE; rw [h2, if_pos he])
        have hlast : reqEx x0 = 0 → reqE x0 (l.take i) = if hasQ (l.take i) x0.1 x0.2.1 = true then 11 else if 64 < (freshS ((studs l).take i ++ [x0.1])).length then 2 else 0 := fun h2 => by
          unfold reqE
          rw [h2, if_neg (by simp), studs_snoc]
          unfold studs
          rw [List.map_take]
        obtain ⟨z, co, m, ts⟩ := x0
        dsimp only at q0 q1 q2 q3 l3 a3 m1 m3 hsn hidx hlast
        obtain ⟨M, hM⟩ : ∃ M, ts.length = M := ⟨_, rfl⟩
        have hreqx : reqEx (z, co, m, ts) = if codeB z = false then 10 else if codeB co = false then 10 else if m < 1 then 3 else if 9 < m then 3 else if 8 < M then 2 else insE co ts M := by unfold reqEx; dsimp only; rw [hM]
        rw [hM] at q3 l3 m3
        have hi0 : (0 : Int) ≤ (i : Int) := by omega
        have hi1 : (i : Int) < (N : Int) := by omega
        have hbn : Below wr.heap.size wr (wr.alloc (.cells #[.string z, .string co, .int .i64 m, .slice F M c3] 53)) := ext_alloc (Below.refl _ _) _
        have y0 : (wr.alloc (.cells #[.string z, .string co, .int .i64 m, .slice F M c3] 53)).cell? ⟨wr.heap.size, 0, none⟩ = some (.string z) := by simp
        have y1 : (wr.alloc (.cells #[.string z, .string co, .int .i64 m, .slice F M c3] 53)).cell? ⟨wr.heap.size, 1, none⟩ = some (.string co) := by simp
        have y2 : (wr.alloc (.cells #[.string z, .string co, .int .i64 m, .slice F M c3] 53)).cell? ⟨wr.heap.size, 2, none⟩ = some (.int .i64 m) := by simp
        have y3 : (wr.alloc (.cells #[.string z, .string co, .int .i64 m, .slice F M c3] 53)).cell? ⟨wr.heap.size, 3, none⟩ = some (.slice F M c3) := by simp
        have hF5 := a3.later hbn
        have hat5 := hat.later hbn
        have hown5 := hown.later hbn
        have hb5 := ext_trans hb hbn
        have hcz := hide (fun (U : World) => r3valid_walk z U)
        have hcc := hide (fun (U : World) => r3valid_walk co U)
        replace hM := hide hM
        clear hx0 hat a3 hown hbn
        go_upto_region 8 with fail
        clear q0 q1 q2 q3
        obtain ⟨x, hxx⟩ : ∃ x, wr.heap.size = x := ⟨_, rfl⟩
        obtain ⟨W5, hW5⟩ : ∃ W5, wr.alloc (.cells #[.string z, .string co, .int .i64 m, .slice F M c3] 53) = W5 := ⟨_, rfl⟩
        rw [hxx] at y0 y1 y2 y3 hkb ⊢
        rw [hW5] at y0 y1 y2 y3 hF5 hat5 hown5 hb5 ⊢
        clear hxx hW5
        have hxl := World.block_lt_of_cell? _ _ y0
        cases hv : codeB z with
        | false =>
          have hend := hfin 10 (by decide) (by rw [hreqx, hv]; rfl)
          rw [hv] at hcz
          clear hfin hdup hnxt hlast hreqx hv hF5 hat5 hown5 h
          go_wp2_with (go_at_call 52; refine (hcz.out _).mono ?_; rintro e w4 ⟨rfl, rfl⟩)
          go_ret
          exact ⟨by rw [hend.out]; rfl, hb5⟩
        | true =>
          rw [hv, if_neg (by simp)] at hreqx
          rw [hv] at hcz
          cases hv2 : codeB co with
          | false =>
            have hend := hfin 10 (by decide) (by rw [hreqx, hv2]; rfl)
            rw [hv2] at hcc
            clear hfin hdup hnxt hlast hreqx hv hv2 hF5 hat5 hown5 h
            go_wp2_with (first | (go_at_call 52; with_reducible refine (hcz.out _).mono ?_; rintro e w4 ⟨rfl, rfl⟩) | (go_at_call 52; with_reducible refine (hcc.out _).mono ?_; rintro e w4 ⟨rfl, rfl⟩))
            go_ret
            exact ⟨by rw [hend.out]; rfl, hb5⟩
          | true =>
            rw [hv2, if_neg (by simp)] at hreqx
            rw [hv2] at hcc
            clear hv hv2
            go_upto_region 10 with (first | (go_at_call 52; with_reducible refine (hcz.out _).mono ?_; rintro e w4 ⟨rfl, rfl⟩) | (go_at_call 52; with_reducible refine (hcc.out _).mono ?_; rintro e w4 ⟨rfl, rfl⟩))
            clear hcz hcc
            by_cases h1 : m < 1
            · have hend := hfin 3 (by decide) (by rw [hreqx, if_pos h1])
              clear hfin hdup hnxt hlast hreqx hF5 hat5 hown5 h
              go_wp2_with fail
              go_ret
              exact ⟨by rw [hend.out]; rfl, hb5⟩
            · rw [if_neg h1] at hreqx
              by_cases h9 : 9 < m
              · have hend := hfin 3 (by decide) (by rw [hreqx, if_pos h9])
                clear hfin hdup hnxt hlast hreqx hF5 hat5 hown5 h
                go_wp2_with fail
                go_ret
                exact ⟨by rw [hend.out]; rfl, hb5⟩
              · rw [if_neg h9] at hreqx
                go_upto_region 12 with fail
                clear h1 h9 y2
                by_cases h8 : 8 < M
                · have h8i : (8 : Int) < (M : Int) := by omega
                  have hend := hfin 2 (by decide) (by rw [hreqx, if_pos h8])
                  clear hfin hdup hnxt hlast hreqx hF5 hat5 hown5 h h8
                  go_wp2_with fail
                  go_ret
                  exact ⟨by rw [hend.out]; rfl, hb5⟩
                · have h8i : ¬ (8 : Int) < (M : Int) := by omega
                  rw [if_neg h8] at hreqx
                  have hlist : ∀ e, e ≠ 0 → insE co ts M = e → Hid (V = e) := fun e he h2 => hfin e he (hreqx.trans h2)
                  have hlast2 : insE co ts M = 0 → _ := fun h2 => hlast (hreqx.trans h2)
                  replace hlist := hide hlist
                  replace hlast2 := hide hlast2
                  replace hdup := hide hdup
                  replace hnxt := hide hnxt
                  clear hfin hlast hreqx h8
                  go_wp2_with fail
                  go_loopw [6] (fun v wj => ∃ j : Nat, j ≤ M ∧ v = .int .i64 j ∧ Hid (insE co ts j = 0) ∧ Below W5.heap.size W5 wj) (fun v _ => M - (intOf v).toNat)
                  case atStart => exact ⟨0, Nat.zero_le _, rfl, hide rfl, Below.refl _ _⟩
                  case round =>
                    rename World => wj
                    clear hb
                    obtain ⟨j, hj, rfl, hoj, hbj⟩ := hrel
                    have g0j := cell_later hbj y0
                    have g1j := cell_later hbj y1
                    have g3j := cell_later hbj y3
                    clear y0 y1 y3
                    by_cases hjl : j < M
                    · obtain ⟨y, hy⟩ : ∃ y, ts[j]? = some y := ⟨_, List.getElem?_eq_getElem (by rw [hM.out]; exact hjl)⟩
                      have hFj := hF5.later hbj
                      obtain ⟨fb, fo, rfl, -, hfb, ky⟩ := hFj.str hy
                      have hj0 : (0 : Int) ≤ (j : Int) := by omega
                      have hj1 : (j : Int) < (M : Int) := by omega
                      have hjc : (j : Int) ≤ (c3 : Int) := by omega
                      have hcy := hide (fun (U : World) => r3valid_walk y U)
                      have hEj := insE_next hy hoj.out
                      have heq := toList_eqD y co
                      obtain ⟨d, hd⟩ : ∃ d, decide (0 ≤ idxS y (ts.take j)) = d := ⟨_, rfl⟩
                      have hcon := hide (fun (n : Later wj) => calls_same (v := .bool d) (n := n) (by
                        have := r2has_walk (some ⟨fb, fo, none⟩) (ts.take j) c3 y n.val (by rw [List.length_take]; omega) ((hFj.take).later n.keeps).any
                        rw [List.length_take, hM.out, Nat.min_eq_left hj, hd] at this
                        exact this))
                      have hk1 : ∀ n : Later wj, n.val.cell? ⟨x, 3, none⟩ = some (.slice (some ⟨fb, fo, none⟩) M c3) := fun n => cell_later n.keeps g3j
                      have hk3 : ∀ n : Later wj, n.val.cell? ⟨x, 1, none⟩ = some (.string co) := fun n => cell_later n.keeps g1j
                      have hk2 : ∀ n : Later wj, n.val.cell? ⟨fb, fo + j, none⟩ = some (.string y) := fun n => cell_later n.keeps ky
                      have hany := later_any wj
                      have hhit : ∀ e, e ≠ 0 → insE co ts (j + 1) = e → Hid (V = e) := fun e he h2 => hlist.out e he (by rw [insE_hit (by rw [h2]; exact he) M hjl, h2])
                      cases hvy : codeB y with
                      | false =>
                        have hend := hhit 10 (by decide) (by rw [hEj, hvy]; rfl)
                        rw [hvy] at hcy
                        clear hhit hEj hvy hcon hy hF5 hFj hat5 hown5 hlist hlast2 hdup hnxt hk1 hk2 hk3 hany heq
                        go_wp2_with (go_at_call 52; refine (hcy.out _).mono ?_; rintro e w4 ⟨rfl, rfl⟩)
                        go_ret
                        exact ⟨by rw [hend.out]; rfl, ext_trans hb5 hbj⟩
                      | true =>
                        rw [hvy] at hcy hEj
                        rw [if_neg (by simp)] at hEj
                        go_upto_region 19 with (go_at_call 52; refine (hcy.out _).mono ?_; rintro e w4 ⟨rfl, rfl⟩)
                        clear hcy hvy
                        by_cases hyc : y = co
                        · have hend := hhit 11 (by decide) (by rw [hEj, if_pos (Or.inl hyc)])
                          rw [decide_eq_true hyc] at heq
                          clear hhit hEj hcon hy hF5 hFj hat5 hown5 hlist hlast2 hdup hnxt hyc hd
                          refine wp_region_later (by kernel_rfl) (by kernel_rfl) ?_
                          repeat (go_big_quiet_step (fail))
                          refine wpQuiet_nil ?_
                          clear hk1 hk2 hk3 hany
                          rintro _ ⟨n8, rfl⟩
                          have hb8 := n8.keeps
                          generalize n8.val = w8 at *
                          go_wp2_with fail
                          go_ret
                          exact ⟨by rw [hend.out]; rfl, ext_trans hb5 (ext_trans hbj hb8)⟩
                        · rw [decide_eq_false hyc] at heq
                          cases d with
                          | true =>
                            have hend := hhit 11 (by decide) (by rw [hEj, if_pos (Or.inr (of_decide_eq_true hd))])
                            clear hhit hEj hy hF5 hFj hat5 hown5 hlist hlast2 hdup hnxt hyc hd
                            refine wp_region_later (by kernel_rfl) (by kernel_rfl) ?_
                            repeat (go_big_quiet_step ((go_at_call 53; with_reducible exact hcon.out _)))
                            refine wpQuiet_nil ?_
                            clear hcon hk1 hk2 hk3 hany
                            rintro _ ⟨n8, rfl⟩
                            have hb8 := n8.keeps
                            generalize n8.val = w8 at *
                            go_wp2_with fail
                            go_ret
                            exact ⟨by rw [hend.out]; rfl, ext_trans hb5 (ext_trans hbj hb8)⟩
                          | false =>
                            have hnx : Hid (insE co ts (j + 1) = 0) := hide (by rw [hEj, if_neg (fun h => h.elim hyc (of_decide_eq_false hd))])
                            clear hhit hEj hy hF5 hFj hat5 hown5 hlist hlast2 hdup hnxt hyc hd
                            refine wp_region_later (by kernel_rfl) (by kernel_rfl) ?_
                            repeat (go_big_quiet_step ((go_at_call 53; with_reducible exact hcon.out _)))
                            refine wpQuiet_nil ?_
                            clear hcon hk1 hk2 hk3 hany
                            rintro _ ⟨n8, rfl⟩
                            have hb8 := n8.keeps
                            generalize n8.val = w8 at *
                            go_wp2_with fail
                            go_roundw
                            case rel => exact ⟨j + 1, by omega, by go_num, hnx, ext_trans hbj hb8⟩
                            case measure => simp [intOf]; omega
                    · obtain rfl : j = M := by omega
                      have hE := hlast2.out hoj.out
                      have hatj := hat5.later hbj
                      have hownj := hown5.later hbj
                      have hbjw := ext_trans hb5 hbj
                      obtain ⟨A6, c6, rfl, -, hat6⟩ := hownj.any
                      have hfind := r12find_walk (some ⟨kb, off, none⟩) l c z co wj (by rw [hN.out]; omega) hatj
                      have hhas := r2has_walk A6 (freshS ((studs l).take i)) c6 z wj (by have := hownj.le; omega) hat6.any
                      obtain ⟨ix, hix⟩ : ∃ ix, idxQ z co l = ix := ⟨_, rfl⟩
                      rw [hix] at hidx hfind
                      rw [hN.out] at hfind
                      have hml : ((studs l).take i).length ≤ 4000000000 := by rw [List.length_take, hsl.out]; omega
                      have hfl := fresh_len ((studs l).take i)
                      have hsn' : freshS ((studs l).take (i + 1)) = if 0 ≤ idxS z (freshS ((studs l).take i)) then freshS ((studs l).take i) else freshS ((studs l).take i) ++ [z] := by rw [hsn, freshS_snoc]
                      rw [← hsn] at hE
                      rw [hsn'] at hE
                      obtain ⟨fr, hfr⟩ : ∃ fr, freshS ((studs l).take i) = fr := ⟨_, rfl⟩
                      rw [hfr] at hhas hownj hfl hE hsn' hat6 ⊢
                      have hfl9 : fr.length ≤ 4000000000 := by omega
                      obtain ⟨P, hP⟩ : ∃ P, fr.length = P := ⟨_, rfl⟩
                      have hP9 : P ≤ 4000000000 := by omega
                      rw [hP] at hhas hownj ⊢
                      replace hfr := hide hfr
                      replace hP := hide hP
                      replace hsn' := hide hsn'
                      clear hF5 hat5 hown5 hatj hlist hlast2 hml hfl hsn hb5 hbj hoj hix hat6
                      by_cases hil : ix < (i : Int)
                      · have hend := hdup.out 11 (by decide) (by rw [hE, if_pos (hidx.1 hil)])
                        clear hE hidx hhas hownj hdup hnxt
                        go_wp2_with (go_at_call 54; refine hfind.mono ?_; rintro e w4 ⟨rfl, rfl⟩)
                        go_ret
                        exact ⟨by rw [hend.out]; rfl, hbjw⟩
                      · rw [if_neg (fun hh => hil (hidx.2 hh))] at hE
                        clear hidx
                        by_cases hd : 0 ≤ idxS z fr
                        · rw [if_pos hd] at hE hsn'
                          rw [decide_eq_true hd] at hhas
                          rw [hP.out] at hE
                          clear hd
                          by_cases h64 : 64 < P
                          · have h64i : (64 : Int) < (P : Int) := by omega
                            have hend := hdup.out 2 (by decide) (by rw [hE, if_pos h64])
                            clear hE hownj hdup hnxt h64
                            go_wp2_with (first | (go_at_call 54; refine hfind.mono ?_; rintro e w4 ⟨rfl, rfl⟩) | (go_at_call 53; refine hhas.mono ?_; rintro e w5 ⟨rfl, rfl⟩))
                            go_ret
                            exact ⟨by rw [hend.out]; rfl, hbjw⟩
                          · have h64i : ¬ (64 : Int) < (P : Int) := by omega
                            have hnx := hnxt.out (by rw [hE, if_neg h64])
                            clear hE hdup hnxt h64
                            go_wp2_with (first | (go_at_call 54; refine hfind.mono ?_; rintro e w4 ⟨rfl, rfl⟩) | (go_at_call 53; refine hhas.mono ?_; rintro e w5 ⟨rfl, rfl⟩))
                            go_roundw
                            case rel => exact ⟨i + 1, by omega, by go_num, hnx, by rw [hsn'.out]; exact hownj, hbjw⟩
                            case measure => first | (simp [intOf]; done) | (simp [intOf]; omega)
                        · rw [if_neg hd] at hE hsn'
                          rw [decide_eq_false hd] at hhas
                          rw [List.length_append, List.length_singleton, hP.out] at hE
                          clear hd
                          go_upto_region 24 with (first | (go_at_call 54; refine hfind.mono ?_; rintro e w4 ⟨rfl, rfl⟩) | (go_at_call 53; refine hhas.mono ?_; rintro e w5 ⟨rfl, rfl⟩))
                          have hwz := hbjw.size
                          go_wp2_with (at_builtin; refine wpList_own rfl _ _ rfl apd_strs (by decide) rfl (hownj.alloc _) ?c1 (by decide) ⟨wj.heap.size, 0, none⟩ 1 rfl z [.string z] rfl (World.news_of_block (cs := #[.string z]) (t := 9) (fr := (0, 0)) (heap_alloc_new _ _)) (by decide) (Nat.zero_le _) ?c2 ?_)
                          case c1 => exact hfl9
                          case c2 => rw [World.size_alloc]; omega
                          intro v' w4 hown4 hgrow
                          have hb4 := (hownj.alloc _).below_grown (ext_alloc hbjw _) (Nat.le_refl _) hgrow
                          obtain ⟨A7, c7, rfl⟩ := hown4.form
                          rw [List.length_append, List.length_singleton, hP.out] at hown4 ⊢
                          obtain ⟨P1, hP1⟩ : ∃ P1, P + 1 = P1 := ⟨_, rfl⟩
                          rw [hP1] at hown4 hE ⊢
                          clear hownj hgrow hwz
                          by_cases h64 : 64 < P1
                          · have h64i : (64 : Int) < (P1 : Int) := by omega
                            have hend := hdup.out 2 (by decide) (by rw [hE, if_pos h64])
                            clear hE hown4 hdup hnxt h64 hP1
                            go_wp2_with fail
                            go_ret
                            exact ⟨by rw [hend.out]; rfl, hb4⟩
                          · have h64i : ¬ (64 : Int) < (P1 : Int) := by omega
                            have hnx := hnxt.out (by rw [hE, if_neg h64])
                            clear hE hdup hnxt h64 hP1
                            go_wp2_with fail
                            go_roundw
                            case rel => exact ⟨i + 1, by omega, by go_num, hnx, by rw [hsn'.out]; exact hown4, hb4⟩
                            case measure => first | (simp [intOf]; done) | (simp [intOf]; omega)
      · obtain rfl : i = N := by omega
        have hVV : Hid (V = 0) := hide (by rw [← hV.out]; exact ho.out)
        have hii : ¬ (i : Int) < (i : Int) := by omega
        clear h hown
        go_wp2_with fail
        go_ret
        exact ⟨by rw [hVV.out]; rfl, hb⟩
end Go.Proofs.YthejgholpkeldaaGreatDoor

namespace Go.Proofs.YthejgholpkeldaaGreatDoor
open Go.RowKit
set_option maxRecDepth 100000

set_option maxHeartbeats 8000000 in
theorem r12write_walk (A : Option Addr) (l : List Req) (cap : Nat) (w : World) (hS : Std w) (hc : l.length ≤ 9223372036854775807) (hm : ReqShort l) (hL : At kReq AnyB w A l) :
    Calls Tryz.prog 11 #[.slice A l.length cap] w fun e w' => QWriteIs l w e w' := by
  have hval := r12val_walk A l cap w hc hm hL
  by_cases hv : validQ l = 0
  · obtain ⟨h16, hpart⟩ := validQ_parts hv
    have hr : Hid (rowsQ l = l.map rowQ) := hide (if_pos hv)
    obtain ⟨N, hN⟩ : ∃ N, l.length = N := ⟨_, rfl⟩
    rw [hv] at hval
    rw [hN] at hval h16 hc ⊢
    replace hN := hide hN
    replace hpart := hide hpart
    replace hv := hide hv
    clear hm
    go_enter Tryz.func11, Tryz.ntmps11
    go_wp2_with fail
    refine hval.mono ?_
    rintro e w1 ⟨rfl, hbw⟩
    have hL1 := (hL.later hbw).lo
    have hS1 := hS.after hbw
    clear hval hL
    go_wp2_with fail
    go_loopw [5, 6] (fun v i wr => ∃ j : Nat, j ≤ N ∧ i = .int .i64 j ∧ Own (kSlice kStr) 41 [9] 0 w1.heap.size wr v ((l.take j).map rowQ) ∧ Below w1.heap.size w1 wr) (fun _ i _ => N - (intOf i).toNat)
    case atStart => exact ⟨0, Nat.zero_le _, rfl, Own.nil, Below.refl _ _⟩
    case round =>
      obtain ⟨j, hj, rfl, hown, hb⟩ := hrel
      by_cases hlt : j < N
      · obtain ⟨x, hx⟩ : ∃ x, l[j]? = some x := ⟨_, List.getElem?_eq_getElem (by rw [hN.out]; exact hlt)⟩
        obtain ⟨-, -, hs1, hs2, hf8, -⟩ := reqEx_parts (reqE_parts (hpart.out j x hx)).1
        obtain ⟨rb, off, A3, c3, rfl, hrb1, hrb, ⟨q0, q1, q2, q3⟩, l3, a3⟩ := (hL1.below hb).req hx
        have hsn : Hid ((l.take (j + 1)).map rowQ = (l.take j).map rowQ ++ [rowQ x]) := by
          refine hide ?_
          rw [List.take_add_one, hx]; simp
        have hl9 : ((l.take j).map rowQ).length ≤ 4000000000 := by rw [List.length_map, List.length_take]; omega
        obtain ⟨lists, hlists⟩ : ∃ lists, (l.take j).map rowQ = lists := ⟨_, rfl⟩
        rw [hlists] at hown hsn hl9
        obtain ⟨z, bl, sn, fs⟩ := x
        dsimp only at q0 q1 q2 q3 l3 a3 hs1 hs2 hf8
        have hz := hb.size
        have hu9 : Hid (∀ y, u5.ownBlock = some y → w1.heap.size ≤ y ∧ y < wr.heap.size) := hide hown.lt
        have hcI := fun (V : World) => decimalN_walk 2 sn.toNat (by omega) (by omega) V
        rw [Int.toNat_of_nonneg (by omega)] at hcI
        have hcC := r3join_walk A3 fs c3 wr a3.any (by omega)
        obtain ⟨dn, hdn⟩ : ∃ dn, decB sn.toNat = dn := ⟨_, rfl⟩
        obtain ⟨⟨jn, tf⟩, hjv⟩ : ∃ r, joinV fs = r := ⟨_, rfl⟩
        have htf : (joinV fs).2 = tf := by rw [hjv]
        have hrow : Hid (rowQ (z, bl, sn, fs) = [z, bl, dn, tf]) := by rw [← hdn, ← htf]; exact hide rfl
        rw [hdn] at hcI
        rw [hjv] at hcC
        obtain ⟨nf, hnf⟩ : ∃ nf, fs.length = nf := ⟨_, rfl⟩
        rw [hnf] at hcC q3
        replace hcI := hide hcI
        replace hcC := hide hcC
        have hj0 : (0 : Int) ≤ (j : Int) := by omega
        have hj1 : (j : Int) < (N : Int) := by omega
        clear hx hlists hdn htf hjv hnf a3 l3
        go_upto_region 9 with (go_at_call 28; (with_reducible refine hcC.out.mono ?_); rintro e Wx ⟨rfl, hxx⟩)
        have hownx := hown.later hxx
        have hC : Cn3 rb (off + j * 4) (.string z) rb (off + j * 4 + 1) (.string bl) rb (off + j * 4 + 2) (.int .i64 sn) Wx := ⟨cell_later hxx q0, cell_later hxx q1, cell_later hxx q2⟩
        have hbx : Below w1.heap.size w1 Wx := ext_trans hb hxx
        have hxl : rb < Wx.heap.size := Nat.lt_of_lt_of_le hrb hxx.size
        have hI := hide (fun (V : World) (hV : Below Wx.heap.size Wx V) => (hcI.out V).mono fun _ _ ⟨he, hb⟩ => (⟨he, ext_trans hV hb, hC.later (ext_trans hV hb), hownx.later (ext_trans hV hb), ext_trans hbx (ext_trans hV hb)⟩ : _ = Ending.returned (.string dn) ∧ Below Wx.heap.size Wx _ ∧ Cn3 rb (off + j * 4) (.string z) rb (off + j * 4 + 1) (.string bl) rb (off + j * 4 + 2) (.int .i64 sn) _ ∧ Own (kSlice kStr) 41 [9] 0 w1.heap.size _ u5 lists ∧ Below w1.heap.size w1 _))
        have nx : Hid (some rb ≠ u5.ownBlock) := hide fun e => by have := (hu9.out rb e.symm).1; omega
        obtain ⟨p0, p1, p2⟩ := id hC
        have hCd := hC.drew
        have hrefl := Below.refl Wx.heap.size Wx
        clear hcI hcC hxx q0 q1 q2 q3 hown
        go_region_held3 (fun W' => W'.cell? ⟨rb, off + j * 4, none⟩ = some (.string z) ∧ W'.cell? ⟨rb, off + j * 4 + 1, none⟩ = some (.string bl) ∧ W'.cell? ⟨rb, off + j * 4 + 2, none⟩ = some (.int .i64 sn)) (first | ((repeat (first | (with_reducible assumption) | (with_reducible refine Cn3.alloc ?_ _) | (with_reducible refine Cn3.drew ?_) | (with_reducible refine Cn3.set ?_ ?_ ?_ ?_ _) | omega)); done)) (first | (go_at_call 29; refine (hI.out _ (by repeat (first | (with_reducible assumption) | (with_reducible refine ext_alloc ?_ _) | (with_reducible refine ext_drew ?_)))).mono ?_; rintro e w2 ⟨rfl, hb2, hx2, ho2, hbw2⟩) | (refine step_own (S := Cn3 rb (off + j * 4) (.string z) rb (off + j * 4 + 1) (.string bl) rb (off + j * 4 + 2) (.int .i64 sn)) (K := kSlice kStr) (t := 41) (ts := [9]) (B0 := 0) (B := w1.heap.size) (v := u5) (l := lists) rfl (.tmp 29) (.tmp 48) rfl apd_lists (by decide) (by rfl) (by repeat (first | (with_reducible assumption) | (with_reducible refine Own.alloc ?_ _) | (with_reducible refine Own.drew ?_))) hl9 (by decide) _ _ (by rfl) [z, bl, dn, tf] [.slice (some ⟨_, 0, none⟩) 4 4] (rep_lit_strs (cs := #[.string z, .string bl, .string dn, .string tf]) (t := 9) [z, bl, dn, tf] (by first | exact heap_alloc_new _ _ | exact block_after (heap_alloc_new _ _) | exact block_after (block_after (heap_alloc_new _ _))) rfl rfl (Below.size (w := w1) (by repeat (first | (with_reducible assumption) | (with_reducible refine ext_alloc ?_ _) | (with_reducible refine ext_drew ?_)))) (by decide)) (World.news_of_block (cs := #[.slice (some ⟨_, 0, none⟩) 4 4]) (t := 41) (fr := (0, 0)) (by first | exact heap_alloc_new _ _ | exact heap_new2 _ _ _)) (by decide) (Nat.zero_le _) (Below.size (w := w1) (by repeat (first | (with_reducible assumption) | (with_reducible refine ext_alloc ?_ _) | (with_reducible refine ext_drew ?_)))) (fun W' hg => Cn3.grown (by repeat (first | (with_reducible assumption) | (with_reducible refine Cn3.alloc ?_ _) | (with_reducible refine Cn3.drew ?_))) hg nx.out nx.out nx.out) ?_; intro gA capA w5 ho5 hg5 hs5))
        all_goals
          have hb5 : Below w1.heap.size w1 w5 := below_grown (by repeat (first | (with_reducible assumption) | (with_reducible refine ext_alloc ?_ _) | (with_reducible refine ext_drew ?_))) hg5 (fun y hy => (hu9.out y hy).1)
          clear hI hC hCd hrefl hg5 hs5
          go_wp2
          go_roundw
          case rel => exact ⟨j + 1, by omega, by go_num, by rw [hsn.out, hrow.out]; exact ho5, hb5⟩
          case measure => simp [intOf]; omega
      · obtain rfl : j = N := by omega
        have hall : Hid (l.take j = l) := hide (by rw [← hN.out]; exact List.take_length)
        rw [hall.out] at hown
        have hfin := hide (hown.lower hbw.size)
        have hbn := ext_trans hbw hb
        clear hall hown
        go_wp2
        go_ret2
        exact ⟨u5, by rw [hv.out]; rfl, by rw [hr.out]; exact hfin.out, hbn⟩
  · have hr : Hid (rowsQ l = []) := hide (if_neg hv)
    obtain ⟨V, hV⟩ : ∃ V, validQ l = V := ⟨_, rfl⟩
    rw [hV] at hval hv
    have hv2 : ((V : Int) != 0) = true := by simp; omega
    have hvi : ¬ (V : Int) = 0 := by omega
    replace hV := hide hV
    obtain ⟨N, hN⟩ : ∃ N, l.length = N := ⟨_, rfl⟩
    rw [hN] at hval ⊢
    clear hv hN hL hc hm
    go_enter Tryz.func11, Tryz.ntmps11
    go_wp2_with fail
    refine hval.mono ?_
    rintro e w1 ⟨rfl, hb1⟩
    clear hval
    go_wp2
    go_ret2
    exact ⟨_, by rw [hV.out]; rfl, by rw [hr.out]; exact Own.nil, hb1⟩
end Go.Proofs.YthejgholpkeldaaGreatDoor
