/- Walk of timetableref12.Wanted. Conditions: the requests' cells; at most 1000000000 requests. -/
import Derived.Test.YthejgholpkeldaaGreatDoorZAwake12
namespace Go.Proofs.YthejgholpkeldaaGreatDoor
open Go.RowKit
set_option maxRecDepth 100000

section
variable {α : Type} {K : Kind α} {C : Nat}
/-- Rows of cells that hold data; what these point to lies below C. -/
def RowsIn (K : Kind α) (C : Nat) (w : World) (F : Option Addr) (es : List α) : Prop :=
  ∃ (b off : Nat) (vss : List (List Value)), F = some ⟨b, off, none⟩ ∧ b < w.heap.size ∧ vss.length = es.length ∧ (∀ (j : Nat) (x : α) (vs : List Value), es[j]? = some x → vss[j]? = some vs → K.rep (· < C) w x vs) ∧ ∀ i u, vss.flatten[i]? = some u → w.cell? ⟨b, off + i, none⟩ = some u
theorem RowsIn.later {w w' : World} {F : Option Addr} {es : List α} (h : RowsIn K C w F es) (hb : Below w.heap.size w w') : RowsIn K C w' F es := by
  obtain ⟨b, off, vss, h1, h2, h3, h4, h5⟩ := h
  exact ⟨b, off, vss, h1, Nat.lt_of_lt_of_le h2 hb.size, h3, fun j x vs hj hv => K.kept (h4 j x vs hj hv) fun y hs hlt => ⟨hs, Nat.lt_of_lt_of_le hlt hb.size, hb.block y hlt⟩, fun i u hu => cell_later hb (h5 i u hu)⟩
theorem Own.rowsIn {t : TypeId} {B g n c : Nat} {w : World} {l : List α} (h : Own K t [] C B w (.slice (some ⟨g, 0, none⟩) n c) l) (q : Nat) : RowsIn K C w (some ⟨g, q * K.k, none⟩) (l.drop q) := by
  obtain ⟨vss, e1, e2, e3⟩ := h
  have hall : ∀ vs ∈ vss, vs.length = K.k := by
    intro vs hv
    obtain ⟨j, hj⟩ := List.getElem?_of_mem hv
    have hjl := (List.getElem?_eq_some_iff.1 hj).1
    exact K.len (e3 j _ vs (List.getElem?_eq_getElem (by omega)) hj)
  rcases e2.2 with ⟨e, h0⟩ | ⟨g', cap, cur, e, hB, hg, h1, h2, h3, h4⟩
  · cases e
  · injection e with e _ _
    injection e with e
    injection e with e _ _
    subst e
    refine ⟨g, q * K.k, vss.drop q, rfl, blk_lt hg, by simp [e1], fun j x vs hj hv => ?_, fun i u hu => ?_⟩
    · rw [List.getElem?_drop] at hj hv
      refine K.more (e3 (q + j) x vs hj hv) fun b hs => ?_
      rcases hs with hs | ⟨-, cs, t', -, ht⟩
      · exact hs
      · simp at ht
    · have hd : (vss.drop q).flatten = vss.flatten.drop (q * K.k) := by
        have := flatten_take vss hall q
        have h5 : vss.flatten = (vss.take q).flatten ++ (vss.drop q).flatten := by rw [← List.flatten_append, List.take_append_drop]
        have hlen : (vss.take q).flatten.length ≤ q * K.k := by rw [this, List.length_take]; omega
        by_cases hq : q ≤ vss.length
        · have hl2 : (vss.take q).flatten.length = q * K.k := by
            rw [this, List.length_take]
            have := (reps_len l vss e1 e3).1
            rw [this, ← e1]
            exact Nat.min_eq_left (Nat.mul_le_mul_right _ hq)
          conv => rhs; rw [h5]
          rw [List.drop_append, ← hl2]; simp
        · rw [List.drop_of_length_le (by omega), List.drop_of_length_le]
          · rfl
          · have := (reps_len l vss e1 e3).1
            rw [this, ← e1]
            exact Nat.mul_le_mul_right _ (by omega)
      rw [hd, List.getElem?_drop] at hu
      have hlt := (List.getElem?_eq_some_iff.1 hu).1
      rw [cell_of_row w g _ cur t (0, 0) hg, ← Array.getElem?_toList]
      rw [← h4, List.getElem?_take] at hu
      split at hu
      · exact hu
      · cases hu
theorem step_own_appK {P : Program} {t2 t : TypeId} {B bytes ns cs : Nat} {w : World} {As : Option Addr} {l : List α} {ops : Array Oper} {o : Oper} {a : Act} {K' : Act → World → Prop} {Q : Exit → Act → World → Prop} {E : Prop} (hgd : o.guard = none) (s x : Operand)
    (ho : o.op = .call { callee := .builtin .append, args := #[s, x], argTypes := #[t2, t2] }) (hA : Apd P t2 t K.k bytes) (hkk : 0 < K.k) (hs : a.eval s = .slice As ns cs) (h : Own K t [] C B w (.slice As ns cs) l) {F : Option Addr} {es : List α} {k c : Nat} (hk0 : es.length = k) (hpos : 0 < k) (hx : a.eval x = .slice F k c) (hF : RowsIn K C w F es) (hl : l.length + k ≤ 4000000000) (hby : bytes ≤ 1000) (hB0 : C ≤ B) (hB : B ≤ w.heap.size)
    (hk : ∀ g cap w', Own K t [] C B w' (.slice (some ⟨g, 0, none⟩) (l.length + k) cap) (l ++ es) → w.grownBy w' (Value.slice As ns cs).ownBlock → g < w'.heap.size → K' (a.put o.dst (.slice (some ⟨g, 0, none⟩) (l.length + k) cap)) w') :
    if Region.wanted o (yielded ops a.tmps) = true then Oper.wp P o a w K' Q else E := by
  obtain ⟨i, z, hi, hz, h1, h2, h3⟩ := hA.i
  obtain ⟨b, off, vss, rfl, hb, hvl, hrep, hc⟩ := hF
  obtain ⟨vs0, e1, e2, e3⟩ := h
  have hrep' : ∀ (j : Nat) (x : α) (vs : List Value), es[j]? = some x → vss[j]? = some vs → K.rep (Ty [] C B w) w x vs := fun j x vs hj hv => K.more (hrep j x vs hj hv) fun b hs => .inl hs
  obtain ⟨r1, r2⟩ := reps_len es vss hvl hrep'
  refine step_append_lies w hgd s x t2 ho B t i z K.k bytes hA.u hi hz h1 h2 h3 hkk _ l.length vs0.flatten hs e2 ⟨b, off, none⟩ k c vss.flatten hx (by rw [r1, hk0]) (fun j u hj => by rw [Addr.add_lit]; exact hc j u hj) r2 hpos (by unfold maxLen; omega) (Nat.le_trans (Nat.mul_le_mul hl hby) (by decide)) hB w.heap.size rfl fun g cap w' hn hg _ hlt => hk g cap w' ?_ hg hlt
  have := Own.append (K := K) (B0 := C) es vss vs0 e1 e2 e3 hvl hrep' (by simp) hB0 hg (v' := .slice (some ⟨g, 0, none⟩) (l.length + k) cap) (by rw [hk0]; exact hn)
  exact this
end
/-- What a student wants of a list, by priority. -/
def ofR (st : ByteArray) (l : List Req) : List Req := ascQ (ofS st l)
theorem ofR_len (st : ByteArray) (l : List Req) : (ofR st l).length ≤ l.length := by unfold ofR ascQ; rw [ascG_len]; exact ofS_len _ _
theorem ofR_take {l : List Req} {i : Nat} {x : Req} (st : ByteArray) (hx : l[i]? = some x) : ofR st (l.take (i + 1)) = if x.1 = st then insG lessQ zReq (ofR st (l.take i)) x else ofR st (l.take i) := by
  unfold ofR
  rw [ofS_take st hx]
  by_cases e : x.1 = st
  · rw [if_pos e, if_pos e]; exact ascG_snoc _ _
  · rw [if_neg e, if_neg e]
theorem posQ_same {x : Req} {out : List Req} {k : Nat} (h : lessQ x (out.getD k zReq) = true) : posG lessQ zReq x out (k + 1) = posG lessQ zReq x out k := by rw [posG, if_pos h]
theorem posQ_stop {x : Req} {out : List Req} {k : Nat} (h : lessQ x (out.getD k zReq) = false) : posG lessQ zReq x out (k + 1) = k + 1 := by rw [posG, h]; rfl
set_option maxHeartbeats 8000000 in
theorem r12want_walk (A : Option Addr) (l : List Req) (c : Nat) (st : ByteArray) (w : World) (hn : l.length ≤ 1000000000) (h : At kReq AnyB w A l) :
    Calls Tryz.prog 37 #[.slice A l.length c, .string st] w fun e w' => ∃ v, e = .returned v ∧ Own kReq 53 [] w.heap.size w.heap.size w' v (wantV st l) ∧ Below w.heap.size w w' := by
  obtain ⟨N, hN⟩ : ∃ N, l.length = N := ⟨_, rfl⟩
  rw [hN] at hn ⊢
  replace hN := hide hN
  have hL := h.lo
  clear h
  go_enter Tryz.func37, Tryz.ntmps37
  go_wp2_with fail
  go_loopw [5, 6] (fun v u wr => ∃ i : Nat, i ≤ N ∧ u = .int .i64 i ∧ Own kReq 53 [] w.heap.size w.heap.size wr v (ofR st (l.take i)) ∧ Below w.heap.size w wr) (fun _ u _ => N - (intOf u).toNat)
  case atStart => exact ⟨0, Nat.zero_le _, rfl, Own.nil, Below.refl _ _⟩
  case round =>
    obtain ⟨i, hi, rfl, hown, hb⟩ := hrel
    by_cases hlt : i < N
    · obtain ⟨x0, hx0⟩ : ∃ x, l[i]? = some x := ⟨_, List.getElem?_eq_getElem (by rw [hN.out]; exact hlt)⟩
      obtain ⟨zb, zo, vs0, rfl, -, hzl0, hrep0, hcells0⟩ := hL.get hx0
      have hnx := ofR_take st hx0
      have hol2 : (ofR st (l.take i)).length ≤ 1000000000 := by
        refine Nat.le_trans (ofR_len _ _) ?_
        rw [List.length_take, hN.out]
        omega
      obtain ⟨Fx, cx, rfl, hkrep⟩ := req_unrep hrep0
      obtain ⟨z, co, m, tsx⟩ := x0
      dsimp only at hcells0 hkrep hnx
      obtain ⟨nt, hnt⟩ : ∃ nt, tsx.length = nt := ⟨_, rfl⟩
      rw [hnt] at hcells0 hkrep
      have z0 : wr.cell? ⟨zb, zo + i * 4, none⟩ = some (.string z) := (hb.cell (p := ⟨zb, _, none⟩) hzl0).trans (hcells0 0 _ rfl)
      have z1 : wr.cell? ⟨zb, zo + i * 4 + 1, none⟩ = some (.string co) := (hb.cell (p := ⟨zb, _, none⟩) hzl0).trans (hcells0 1 _ rfl)
      have z2 : wr.cell? ⟨zb, zo + i * 4 + 2, none⟩ = some (.int .i64 m) := (hb.cell (p := ⟨zb, _, none⟩) hzl0).trans (hcells0 2 _ rfl)
      have z3 : wr.cell? ⟨zb, zo + i * 4 + 3, none⟩ = some (.slice Fx nt cx) := (hb.cell (p := ⟨zb, _, none⟩) hzl0).trans (hcells0 3 _ rfl)
      have hzl : zb < wr.heap.size := Nat.lt_of_lt_of_le hzl0 hb.size
      have hrepx : Hid (∀ (V : World), Below w.heap.size w V → ∀ B, kReq.rep (Ty [] w.heap.size B V) V (z, co, m, tsx) [.string z, .string co, .int .i64 m, .slice Fx nt cx]) := hide fun V hV B => req_rep ((kSlice kStr).kept hkrep fun b hs hlt => ⟨.inl hs, Nat.lt_of_lt_of_le hlt hV.size, hV.block b hs⟩)
      have heq := toList_eqD z st
      have hj0 : (0 : Int) ≤ (i : Int) := by omega
      have hj1 : (i : Int) < (N : Int) := by omega
      obtain ⟨out, hout⟩ : ∃ out, ofR st (l.take i) = out := ⟨_, rfl⟩
      rw [hout] at hown hnx hol2
      clear hx0 hrep0 hcells0 hkrep hnt
      by_cases hzs : z = st
      · rw [if_pos hzs] at hnx
        rw [decide_eq_true hzs] at heq
        obtain ⟨A3, c3, rfl, hcap, hat⟩ := hown.any
        obtain ⟨j, hol⟩ : ∃ j, out.length = j := ⟨_, rfl⟩
        rw [hol] at hown hcap hol2 ⊢
        replace hol := hide hol
        replace hnx := hide hnx
        clear hzs hout
        go_wp2_with fail
        rename World => wo
        have hze := hb.size
        go_loopw [7] (fun v wi => ∃ k : Nat, k ≤ j ∧ v = .int .i64 k ∧ Hid (posG lessQ zReq (z, co, m, tsx) out j = posG lessQ zReq (z, co, m, tsx) out k) ∧ Below wo.heap.size wo wi) (fun v _ => (intOf v).toNat)
        case atStart => exact ⟨j, Nat.le_refl _, rfl, hide rfl, Below.refl _ _⟩
        case round =>
          obtain ⟨k, hk, rfl, hps, hbi⟩ := hrel
          have y0 := cell_later hbi z0
          have y1 := cell_later hbi z1
          have y2 := cell_later hbi z2
          have y3 := cell_later hbi z3
          have hzl1 : zb < wr.heap.size := Nat.lt_of_lt_of_le hzl hbi.size
          by_cases hk0 : 0 < k
          · obtain ⟨k, rfl⟩ : ∃ k', k = k' + 1 := ⟨k - 1, by omega⟩
            obtain ⟨y, hy⟩ : ∃ y, out[k]? = some y := ⟨_, List.getElem?_eq_getElem (by rw [hol.out]; omega)⟩
            obtain ⟨ob, oo, Fy, cy, rfl, -, hobl, ⟨-, -, p2, -⟩, -, -⟩ := (hat.any.later hbi).req hy
            have hyd : out.getD k zReq = y := by rw [List.getD_eq_getElem?_getD, hy]; rfl
            have hlv : lessQ (z, co, m, tsx) y = decide (m < y.2.2.1) := rfl
            obtain ⟨my, hmy⟩ : ∃ my, y.2.2.1 = my := ⟨_, rfl⟩
            rw [hmy] at p2 hlv
            obtain ⟨k1, hk1e⟩ : ∃ k1, k + 1 = k1 := ⟨_, rfl⟩
            have hk1 : (0 : Int) < (k1 : Int) := by omega
            have hk1n : 0 < k1 := by omega
            have hkw : IntKind.i64.wrap ((k1 : Int) - 1) = (k : Int) := by rw [IntKind.wrap_i64]; omega
            have hkk : (k1 : Int) - 1 = (k : Int) := by omega
            have hk2 : (0 : Int) ≤ (k : Int) := by omega
            have hk3 : (k : Int) < (j : Int) := by omega
            by_cases hcv0 : m < my
            · have hnp : Hid (posG lessQ zReq (z, co, m, tsx) out j = posG lessQ zReq (z, co, m, tsx) out k) := hide (hps.out.trans (posQ_same (by rw [hyd, hlv]; exact decide_eq_true hcv0)))
              rw [hk1e]
              replace hk1e := hide hk1e
              clear hy hyd hlv hps hmy hk0
              go_upto_region 7 with fail
              go_quiet (fail)
              go_wp2_with fail
              go_roundw
              case rel => exact ⟨k, by omega, by go_num, hnp, ext_drewN hbi _⟩
              case measure => first | (simp [intOf]; done) | (simp [intOf]; have := hk1e.out; omega)
            · have hpp : Hid (posG lessQ zReq (z, co, m, tsx) out j = k1) := hide (by rw [← hk1e]; exact hps.out.trans (posQ_stop (by rw [hyd, hlv]; exact decide_eq_false hcv0)))
              rw [hk1e] at hk ⊢
              replace hk1e := hide hk1e
              clear hy hyd hlv hps hmy hk0
              go_upto_region 7 with fail
              go_quiet (fail)
              go_upto_region 9 with fail
              obtain ⟨wz, hwz⟩ : ∃ wz, wr.drewN nq = wz := ⟨_, rfl⟩
              have hbz : Below wo.heap.size wo wz := by rw [← hwz]; exact ext_drewN hbi _
              rw [hwz]
              have hownz := hown.later hbz
              have hbw : Below w.heap.size w wz := ext_trans hb hbz
              have hwj : wo.heap.size ≤ wz.heap.size := hbz.size
              replace y0 := cell_later hbz z0
              replace y1 := cell_later hbz z1
              replace y2 := cell_later hbz z2
              replace y3 := cell_later hbz z3
              have hzlz : zb < wz.heap.size := Nat.lt_of_lt_of_le hzl hbz.size
              clear p2 hobl hkw hk2 hk3 hk1 hk1n hcv0 hbi hbz hwz z0 z1 z2 z3 hkk
              obtain ⟨q, hqe⟩ : ∃ q, k1 = q := ⟨_, rfl⟩
              rw [hqe] at hpp hk ⊢
              clear hqe hk1e
              obtain ⟨A3q, hA3q⟩ : ∃ A3q, some (⟨ob, oo, none⟩ : Addr) = A3q := ⟨_, rfl⟩
              rw [hA3q] at hown hownz hat ⊢
              clear hA3q
              (
                have hq0 : (0 : Int) ≤ (q : Int) := by omega
                have hq1 : (q : Int) ≤ (j : Int) := by omega
                have hqc : (q : Int) ≤ (c3 : Int) := by omega
                have hfr := hownz.front hk
                clear hown hat hb
                have hWo : Below wz.heap.size wz ((wz.alloc (.cells #[.string z, .string co, .int .i64 m, .slice Fx nt cx] 53)).drew) := ext_drew (ext_alloc (Below.refl _ _) _)
                have hone : Own kReq 53 [] w.heap.size wz.heap.size ((wz.alloc (.cells #[.string z, .string co, .int .i64 m, .slice Fx nt cx] 53)).drew) (.slice (some ⟨wz.heap.size, 0, none⟩) 1 1) [(z, co, m, tsx)] :=
                  (Own.lit (K := kReq) (heap_alloc_new wz (.cells #[.string z, .string co, .int .i64 m, .slice Fx nt cx] 53)) [(z, co, m, tsx)] [[.string z, .string co, .int .i64 m, .slice Fx nt cx]] rfl rfl (by simp) (fun j x vs hj hv => by
                    match j, hj, hv with
                    | 0, hj, hv => simp at hj hv; subst hj hv; exact hrepx.out _ (ext_trans hbw (ext_alloc (Below.refl _ _) _)) _
                    | j + 1, hj, _ => simp at hj) (Nat.le_refl _)).drew
                have hin1 : RowsIn kReq w.heap.size ((wz.alloc (.cells #[.string z, .string co, .int .i64 m, .slice Fx nt cx] 53)).drew) (some ⟨wz.heap.size, 0, none⟩) [(z, co, m, tsx)] := by
                  have := hone.rowsIn 0
                  rwa [Nat.zero_mul] at this
                have hfz := hfr.later hWo
                have hfl : ∀ y, (Value.slice A3q q c3).ownBlock = some y → w.heap.size ≤ y ∧ y < wz.heap.size := fun y hy => hfr.lt y hy
                have hsz : wz.heap.size ≤ ((wz.alloc (.cells #[.string z, .string co, .int .i64 m, .slice Fx nt cx] 53)).drew).heap.size := hWo.size
                by_cases hqj : q = j
                · subst hqj
                  have hql : (out.take q).length = q := by rw [List.length_take, hol.out]; omega
                  have hl1 : (out.take q).length + 1 ≤ 4000000000 := by rw [hql]; omega
                  have hfin : Hid (out.take q ++ [(z, co, m, tsx)] = ofR st (l.take (i + 1))) := hide (by
                    have hd : out.drop q = [] := List.drop_eq_nil_of_le (by rw [hol.out]; exact Nat.le_refl _)
                    rw [hnx.out]
                    unfold insG
                    rw [hol.out, hpp.out, hd])
                  cases A3q with
                  | none =>
                    go_region_law (refine step_own_appK (P := Tryz.prog) (K := kReq) (C := w.heap.size) (t2 := 27) (t := 53) (B := w.heap.size) (As := none) (ns := q) (cs := c3) (l := out.take q) (F := some ⟨wz.heap.size, 0, none⟩) (es := [(z, co, m, tsx)]) (k := 1) (c := 1) (bytes := 64) rfl (.tmp 43) (.tmp 52) rfl apd_reqs (by decide) (by simp [Act.eval]; done) hfz rfl (by decide) (by simp [Act.eval]; done) hin1 hl1 (by decide) (Nat.le_refl _) (Nat.le_trans hbw.size hsz) ?_; intro g5 c5 w5 ho5 hgr5 hgl5)
                    have hbf : Below w.heap.size w w5 := below_grown (ext_trans hbw hWo) hgr5 (fun y hy => (hfl y hy).1)
                    rw [hql, hfin.out] at ho5
                    clear hgr5 hgl5 hfin hfl hfz hone hfr hownz hWo hnx hpp
                    go_wp2_with fail
                    go_roundw
                    case rel => exact ⟨i + 1, by omega, by go_num, ho5, hbf⟩
                    case measure => first | (simp [intOf]; done) | (simp [intOf]; omega)
                  | some ad =>
                    by_cases hcq : c3 = q
                    · subst hcq
                      go_region_law (refine step_own_appK (P := Tryz.prog) (K := kReq) (C := w.heap.size) (t2 := 27) (t := 53) (B := w.heap.size) (As := some ad) (ns := c3) (cs := c3) (l := out.take c3) (F := some ⟨wz.heap.size, 0, none⟩) (es := [(z, co, m, tsx)]) (k := 1) (c := 1) (bytes := 64) rfl (.tmp 43) (.tmp 52) rfl apd_reqs (by decide) (by simp [Act.eval]; done) hfz rfl (by decide) (by simp [Act.eval]; done) hin1 hl1 (by decide) (Nat.le_refl _) (Nat.le_trans hbw.size hsz) ?_; intro g5 c5 w5 ho5 hgr5 hgl5)
                      have hbf : Below w.heap.size w w5 := below_grown (ext_trans hbw hWo) hgr5 (fun y hy => (hfl y hy).1)
                      rw [hql, hfin.out] at ho5
                      clear hgr5 hgl5 hfin hfl hfz hone hfr hownz hWo hnx hpp
                      go_wp2_with fail
                      go_roundw
                      case rel => exact ⟨i + 1, by omega, by go_num, ho5, hbf⟩
                      case measure => first | (simp [intOf]; done) | (simp [intOf]; omega)
                    · go_region_law (refine step_own_appK (P := Tryz.prog) (K := kReq) (C := w.heap.size) (t2 := 27) (t := 53) (B := w.heap.size) (As := some ad) (ns := q) (cs := c3) (l := out.take q) (F := some ⟨wz.heap.size, 0, none⟩) (es := [(z, co, m, tsx)]) (k := 1) (c := 1) (bytes := 64) rfl (.tmp 43) (.tmp 52) rfl apd_reqs (by decide) (by simp [Act.eval]; done) hfz rfl (by decide) (by simp [Act.eval]; done) hin1 hl1 (by decide) (Nat.le_refl _) (Nat.le_trans hbw.size hsz) ?_; intro g5 c5 w5 ho5 hgr5 hgl5)
                      have hbf : Below w.heap.size w w5 := below_grown (ext_trans hbw hWo) hgr5 (fun y hy => (hfl y hy).1)
                      rw [hql, hfin.out] at ho5
                      clear hgr5 hgl5 hfin hfl hfz hone hfr hownz hWo hnx hpp
                      go_wp2_with fail
                      go_roundw
                      case rel => exact ⟨i + 1, by omega, by go_num, ho5, hbf⟩
                      case measure => first | (simp [intOf]; done) | (simp [intOf]; omega)
                · have hcq : ¬ c3 = q := by omega
                  obtain ⟨g3, hg3, hgl⟩ : ∃ g3, A3q = some ⟨g3, 0, none⟩ ∧ g3 < wz.heap.size := by
                    obtain ⟨vss, -, e2, -⟩ := hownz
                    rcases e2.2 with ⟨e, h0⟩ | ⟨g3, cap, cur, e, hB, hg3, -⟩
                    · exfalso; have := hol.out; omega
                    · injection e with e
                      exact ⟨g3, e, blk_lt hg3⟩
                  cases hg3
                  have hdr := (hownz.rowsIn q).later hWo
                  replace hdr : RowsIn kReq w.heap.size _ (some ⟨g3, q * 4, none⟩) (out.drop q) := hdr
                  have hdl : (out.drop q).length = j - q := by rw [List.length_drop, hol.out]
                  have hql : (out.take q).length = q := by rw [List.length_take, hol.out]; omega
                  have hpos : 0 < j - q := by omega
                  have hw7 := hbw.size
                  have hfin : Hid (out.take q ++ ([(z, co, m, tsx)] ++ out.drop q) = ofR st (l.take (i + 1))) := hide (by
                    rw [hnx.out]
                    unfold insG
                    rw [hol.out, hpp.out]; rfl)
                  have hl0 : ([(z, co, m, tsx)] : List Req).length + (j - q) ≤ 4000000000 := by show 1 + (j - q) ≤ _; omega
                  have hl1 : ∀ a b : Nat, ((out.take q).length : Nat) + (1 + (j - q)) ≤ 4000000000 := fun _ _ => by rw [hql]; omega
                  have hle : ([(z, co, m, tsx)] ++ out.drop q).length = 1 + (j - q) := by rw [List.length_append]; exact congrArg (1 + ·) hdl
                  go_region_law (first | (refine step_own_appK (P := Tryz.prog) (K := kReq) (C := w.heap.size) (t2 := 27) (t := 53) (B := wz.heap.size) (As := some ⟨wz.heap.size, 0, none⟩) (ns := 1) (cs := 1) (l := [(z, co, m, tsx)]) (F := some ⟨g3, q * 4, none⟩) (es := out.drop q) (k := j - q) (c := c3 - q) (bytes := 64) rfl (.tmp 48) (.tmp 51) rfl apd_reqs (by decide) (by simp [Act.eval]; done) hone hdl hpos (by simp [Act.eval]; done) hdr hl0 (by decide) hbw.size hsz ?_; intro g4 c4 w4 ho4 hgr4 hgl4; have hf4 := hfz.kept hgr4 (Or.inr (fun e => by simp [Value.ownBlock] at e; omega)) (fun y hy => ⟨by simp [Value.ownBlock] at hy; omega, fun h => by obtain ⟨-, cs, t', -, ht⟩ := h; simp at ht⟩)) | (refine step_own_appK (P := Tryz.prog) (K := kReq) (C := w.heap.size) (t2 := 27) (t := 53) (B := w.heap.size) (As := some ⟨g3, 0, none⟩) (ns := q) (cs := c3) (l := out.take q) (F := some ⟨g4, 0, none⟩) (es := [(z, co, m, tsx)] ++ out.drop q) (k := 1 + (j - q)) (c := c4) (bytes := 64) rfl (.tmp 43) (.tmp 52) rfl apd_reqs (by decide) (by simp [Act.eval]; done) hf4 hle (by omega) (by simp [Act.eval]; done) (by have := ho4.rowsIn 0; rwa [Nat.zero_mul] at this) (hl1 0 0) (by decide) (Nat.le_refl _) (Nat.le_trans (Nat.le_trans hw7 hsz) hgr4.size) ?_; intro g5 c5 w5 ho5 hgr5 hgl5))
                  have hbf : Below w.heap.size w w5 := below_grown (below_grown (ext_trans hbw hWo) hgr4 (fun y hy => by simp [Value.ownBlock] at hy; omega)) hgr5 (fun y hy => (hfl y hy).1)
                  rw [hql, hfin.out] at ho5
                  have hqe : q + (1 + (j - q)) = j + 1 := by omega
                  rw [hqe] at ho5 ⊢
                  clear hgr5 hgr4 hgl4 hgl5 ho4 hf4 hfin hfl hfz hone hdr hfr hownz hWo hnx hpp
                  go_wp2_with fail
                  go_roundw
                  case rel => exact ⟨i + 1, by omega, by go_num, ho5, hbf⟩
                  case measure => first | (simp [intOf]; done) | (simp [intOf]; omega))
          · have hpp : Hid (posG lessQ zReq (z, co, m, tsx) out j = k) := hide (by
              have e : k = 0 := by omega
              rw [hps.out, e]; rfl)
            have hk1 : ¬ (0 : Int) < (k : Int) := by omega
            clear hps
            go_upto_region 7 with fail
            go_quiet (fail)
            go_upto_region 9 with fail
            obtain ⟨wz, hwz⟩ : ∃ wz, wr.drewN nq = wz := ⟨_, rfl⟩
            have hbz : Below wo.heap.size wo wz := by rw [← hwz]; exact ext_drewN hbi _
            rw [hwz]
            have hownz := hown.later hbz
            have hbw : Below w.heap.size w wz := ext_trans hb hbz
            replace y0 := cell_later hbz z0
            replace y1 := cell_later hbz z1
            replace y2 := cell_later hbz z2
            replace y3 := cell_later hbz z3
            have hzlz : zb < wz.heap.size := Nat.lt_of_lt_of_le hzl hbz.size
            clear hk1 hk0 hbi hbz hwz z0 z1 z2 z3
            obtain ⟨q, hqe⟩ : ∃ q, k = q := ⟨_, rfl⟩
            rw [hqe] at hpp hk ⊢
            clear hqe
            obtain ⟨A3q, hA3q⟩ : ∃ A3q, A3 = A3q := ⟨_, rfl⟩
            rw [hA3q] at hown hownz hat ⊢
            clear hA3q
            (
              have hq0 : (0 : Int) ≤ (q : Int) := by omega
              have hq1 : (q : Int) ≤ (j : Int) := by omega
              have hqc : (q : Int) ≤ (c3 : Int) := by omega
              have hfr := hownz.front hk
              clear hown hat hb
              have hWo : Below wz.heap.size wz ((wz.alloc (.cells #[.string z, .string co, .int .i64 m, .slice Fx nt cx] 53)).drew) := ext_drew (ext_alloc (Below.refl _ _) _)
              have hone : Own kReq 53 [] w.heap.size wz.heap.size ((wz.alloc (.cells #[.string z, .string co, .int .i64 m, .slice Fx nt cx] 53)).drew) (.slice (some ⟨wz.heap.size, 0, none⟩) 1 1) [(z, co, m, tsx)] :=
                (Own.lit (K := kReq) (heap_alloc_new wz (.cells #[.string z, .string co, .int .i64 m, .slice Fx nt cx] 53)) [(z, co, m, tsx)] [[.string z, .string co, .int .i64 m, .slice Fx nt cx]] rfl rfl (by simp) (fun j x vs hj hv => by
                  match j, hj, hv with
                  | 0, hj, hv => simp at hj hv; subst hj hv; exact hrepx.out _ (ext_trans hbw (ext_alloc (Below.refl _ _) _)) _
                  | j + 1, hj, _ => simp at hj) (Nat.le_refl _)).drew
              have hin1 : RowsIn kReq w.heap.size ((wz.alloc (.cells #[.string z, .string co, .int .i64 m, .slice Fx nt cx] 53)).drew) (some ⟨wz.heap.size, 0, none⟩) [(z, co, m, tsx)] := by
                have := hone.rowsIn 0
                rwa [Nat.zero_mul] at this
              have hfz := hfr.later hWo
              have hfl : ∀ y, (Value.slice A3q q c3).ownBlock = some y → w.heap.size ≤ y ∧ y < wz.heap.size := fun y hy => hfr.lt y hy
              have hsz : wz.heap.size ≤ ((wz.alloc (.cells #[.string z, .string co, .int .i64 m, .slice Fx nt cx] 53)).drew).heap.size := hWo.size
              by_cases hqj : q = j
              · subst hqj
                have hql : (out.take q).length = q := by rw [List.length_take, hol.out]; omega
                have hl1 : (out.take q).length + 1 ≤ 4000000000 := by rw [hql]; omega
                have hfin : Hid (out.take q ++ [(z, co, m, tsx)] = ofR st (l.take (i + 1))) := hide (by
                  have hd : out.drop q = [] := List.drop_eq_nil_of_le (by rw [hol.out]; exact Nat.le_refl _)
                  rw [hnx.out]
                  unfold insG
                  rw [hol.out, hpp.out, hd])
                cases A3q with
                | none =>
                  go_region_law (refine step_own_appK (P := Tryz.prog) (K := kReq) (C := w.heap.size) (t2 := 27) (t := 53) (B := w.heap.size) (As := none) (ns := q) (cs := c3) (l := out.take q) (F := some ⟨wz.heap.size, 0, none⟩) (es := [(z, co, m, tsx)]) (k := 1) (c := 1) (bytes := 64) rfl (.tmp 43) (.tmp 52) rfl apd_reqs (by decide) (by simp [Act.eval]; done) hfz rfl (by decide) (by simp [Act.eval]; done) hin1 hl1 (by decide) (Nat.le_refl _) (Nat.le_trans hbw.size hsz) ?_; intro g5 c5 w5 ho5 hgr5 hgl5)
                  have hbf : Below w.heap.size w w5 := below_grown (ext_trans hbw hWo) hgr5 (fun y hy => (hfl y hy).1)
                  rw [hql, hfin.out] at ho5
                  clear hgr5 hgl5 hfin hfl hfz hone hfr hownz hWo hnx hpp
                  go_wp2_with fail
                  go_roundw
                  case rel => exact ⟨i + 1, by omega, by go_num, ho5, hbf⟩
                  case measure => first | (simp [intOf]; done) | (simp [intOf]; omega)
                | some ad =>
                  by_cases hcq : c3 = q
                  · subst hcq
                    go_region_law (refine step_own_appK (P := Tryz.prog) (K := kReq) (C := w.heap.size) (t2 := 27) (t := 53) (B := w.heap.size) (As := some ad) (ns := c3) (cs := c3) (l := out.take c3) (F := some ⟨wz.heap.size, 0, none⟩) (es := [(z, co, m, tsx)]) (k := 1) (c := 1) (bytes := 64) rfl (.tmp 43) (.tmp 52) rfl apd_reqs (by decide) (by simp [Act.eval]; done) hfz rfl (by decide) (by simp [Act.eval]; done) hin1 hl1 (by decide) (Nat.le_refl _) (Nat.le_trans hbw.size hsz) ?_; intro g5 c5 w5 ho5 hgr5 hgl5)
                    have hbf : Below w.heap.size w w5 := below_grown (ext_trans hbw hWo) hgr5 (fun y hy => (hfl y hy).1)
                    rw [hql, hfin.out] at ho5
                    clear hgr5 hgl5 hfin hfl hfz hone hfr hownz hWo hnx hpp
                    go_wp2_with fail
                    go_roundw
                    case rel => exact ⟨i + 1, by omega, by go_num, ho5, hbf⟩
                    case measure => first | (simp [intOf]; done) | (simp [intOf]; omega)
                  · go_region_law (refine step_own_appK (P := Tryz.prog) (K := kReq) (C := w.heap.size) (t2 := 27) (t := 53) (B := w.heap.size) (As := some ad) (ns := q) (cs := c3) (l := out.take q) (F := some ⟨wz.heap.size, 0, none⟩) (es := [(z, co, m, tsx)]) (k := 1) (c := 1) (bytes := 64) rfl (.tmp 43) (.tmp 52) rfl apd_reqs (by decide) (by simp [Act.eval]; done) hfz rfl (by decide) (by simp [Act.eval]; done) hin1 hl1 (by decide) (Nat.le_refl _) (Nat.le_trans hbw.size hsz) ?_; intro g5 c5 w5 ho5 hgr5 hgl5)
                    have hbf : Below w.heap.size w w5 := below_grown (ext_trans hbw hWo) hgr5 (fun y hy => (hfl y hy).1)
                    rw [hql, hfin.out] at ho5
                    clear hgr5 hgl5 hfin hfl hfz hone hfr hownz hWo hnx hpp
                    go_wp2_with fail
                    go_roundw
                    case rel => exact ⟨i + 1, by omega, by go_num, ho5, hbf⟩
                    case measure => first | (simp [intOf]; done) | (simp [intOf]; omega)
              · have hcq : ¬ c3 = q := by omega
                obtain ⟨g3, hg3, hgl⟩ : ∃ g3, A3q = some ⟨g3, 0, none⟩ ∧ g3 < wz.heap.size := by
                  obtain ⟨vss, -, e2, -⟩ := hownz
                  rcases e2.2 with ⟨e, h0⟩ | ⟨g3, cap, cur, e, hB, hg3, -⟩
                  · exfalso; have := hol.out; omega
                  · injection e with e
                    exact ⟨g3, e, blk_lt hg3⟩
                cases hg3
                have hdr := (hownz.rowsIn q).later hWo
                replace hdr : RowsIn kReq w.heap.size _ (some ⟨g3, q * 4, none⟩) (out.drop q) := hdr
                have hdl : (out.drop q).length = j - q := by rw [List.length_drop, hol.out]
                have hql : (out.take q).length = q := by rw [List.length_take, hol.out]; omega
                have hpos : 0 < j - q := by omega
                have hw7 := hbw.size
                have hfin : Hid (out.take q ++ ([(z, co, m, tsx)] ++ out.drop q) = ofR st (l.take (i + 1))) := hide (by
                  rw [hnx.out]
                  unfold insG
                  rw [hol.out, hpp.out]; rfl)
                have hl0 : ([(z, co, m, tsx)] : List Req).length + (j - q) ≤ 4000000000 := by show 1 + (j - q) ≤ _; omega
                have hl1 : ∀ a b : Nat, ((out.take q).length : Nat) + (1 + (j - q)) ≤ 4000000000 := fun _ _ => by rw [hql]; omega
                have hle : ([(z, co, m, tsx)] ++ out.drop q).length = 1 + (j - q) := by rw [List.length_append]; exact congrArg (1 + ·) hdl
                go_region_law (first | (refine step_own_appK (P := Tryz.prog) (K := kReq) (C := w.heap.size) (t2 := 27) (t := 53) (B := wz.heap.size) (As := some ⟨wz.heap.size, 0, none⟩) (ns := 1) (cs := 1) (l := [(z, co, m, tsx)]) (F := some ⟨g3, q * 4, none⟩) (es := out.drop q) (k := j - q) (c := c3 - q) (bytes := 64) rfl (.tmp 48) (.tmp 51) rfl apd_reqs (by decide) (by simp [Act.eval]; done) hone hdl hpos (by simp [Act.eval]; done) hdr hl0 (by decide) hbw.size hsz ?_; intro g4 c4 w4 ho4 hgr4 hgl4; have hf4 := hfz.kept hgr4 (Or.inr (fun e => by simp [Value.ownBlock] at e; omega)) (fun y hy => ⟨by simp [Value.ownBlock] at hy; omega, fun h => by obtain ⟨-, cs, t', -, ht⟩ := h; simp at ht⟩)) | (refine step_own_appK (P := Tryz.prog) (K := kReq) (C := w.heap.size) (t2 := 27) (t := 53) (B := w.heap.size) (As := some ⟨g3, 0, none⟩) (ns := q) (cs := c3) (l := out.take q) (F := some ⟨g4, 0, none⟩) (es := [(z, co, m, tsx)] ++ out.drop q) (k := 1 + (j - q)) (c := c4) (bytes := 64) rfl (.tmp 43) (.tmp 52) rfl apd_reqs (by decide) (by simp [Act.eval]; done) hf4 hle (by omega) (by simp [Act.eval]; done) (by have := ho4.rowsIn 0; rwa [Nat.zero_mul] at this) (hl1 0 0) (by decide) (Nat.le_refl _) (Nat.le_trans (Nat.le_trans hw7 hsz) hgr4.size) ?_; intro g5 c5 w5 ho5 hgr5 hgl5))
                have hbf : Below w.heap.size w w5 := below_grown (below_grown (ext_trans hbw hWo) hgr4 (fun y hy => by simp [Value.ownBlock] at hy; omega)) hgr5 (fun y hy => (hfl y hy).1)
                rw [hql, hfin.out] at ho5
                have hqe : q + (1 + (j - q)) = j + 1 := by omega
                rw [hqe] at ho5 ⊢
                clear hgr5 hgr4 hgl4 hgl5 ho4 hf4 hfin hfl hfz hone hdr hfr hownz hWo hnx hpp
                go_wp2_with fail
                go_roundw
                case rel => exact ⟨i + 1, by omega, by go_num, ho5, hbf⟩
                case measure => first | (simp [intOf]; done) | (simp [intOf]; omega))
      · rw [if_neg hzs, ← hout] at hnx
        rw [decide_eq_false hzs] at heq
        rw [← hout] at hown
        replace hnx := hide hnx
        clear hzs hout
        go_wp2_with fail
        go_roundw
        case rel => exact ⟨i + 1, by omega, by go_num, by rw [hnx.out]; exact hown, hb⟩
        case measure => first | (simp [intOf]; done) | (simp [intOf]; omega)
    · obtain rfl : i = N := by omega
      have hall : Hid (ofR st (l.take i) = wantV st l) := hide (by rw [← hN.out, List.take_length]; rfl)
      rw [hall.out] at hown
      go_wp2_with fail
      go_ret
      exact ⟨_, rfl, hown, hb⟩
end Go.Proofs.YthejgholpkeldaaGreatDoor
