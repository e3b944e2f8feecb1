/- natural.Add. -/
import Derived.Test.YtnknidfpkmnncaaA4
import Derived.Laws.MakeOwn
namespace Go.Proofs.Ytnknidfpkmnncaa
open Go.RowKit

theorem ret_int {k : IntKind} {a b : Int} (h : a = b) : Ending.returned (.int k a) = .returned (.int k b) := by rw [h]

theorem add1_any (x y c : Nat) (p : Addr) (w : World) (hx : x < 4294967296) (hy : y < 4294967296) (hc : c ≤ 1) (hp : w.cell? p = some (.int .u32 c)) (hf : w.frozen? p = false) :
    Calls Try.prog 85 #[.int .u32 x, .int .u32 y, .pointer (some p)] w fun e w' =>
      e = .returned (.int .u32 ((x + y + c) % 4294967296 : Nat)) ∧ w.setCell p (.int .u32 ((x + y + c) / 4294967296 : Nat)) = w' := by
  go_enter Try.func85, Try.ntmps85
  go_wp2_with (go_at_call 79; refine (add32_any x y c _ hx hy hc).mono ?_; rintro e w' ⟨rfl, rfl⟩)
  go_ret
  exact ⟨rfl, rfl⟩

/-- The digits of a block that the call has made: block g holds the digits xs of the type uint32. -/
def Made (w : World) (g : Nat) (xs : List Nat) : Prop := w.heap[g]? = some (.cells (digCells xs).toArray 109 (0, 0))

theorem Made.cell {w : World} {g : Nat} {xs : List Nat} (h : Made w g xs) {k : Nat} (hk : k < xs.length) : w.cell? ⟨g, k, none⟩ = some (.int .u32 ((dg xs k : Nat) : Int)) := by
  rw [cell_of_row _ _ k _ _ _ h, List.getElem?_toArray, digCells_at hk]
theorem Made.frozen {w : World} {g : Nat} {xs : List Nat} (h : Made w g xs) (k : Nat) : w.frozen? ⟨g, k, none⟩ = false := by
  unfold Made at h
  simp [World.frozen?, h]
theorem Made.set_ {w : World} {g : Nat} {xs : List Nat} (h : Made w g xs) (k v : Nat) : Made (w.setCell ⟨g, k, none⟩ (.int .u32 (v : Int))) g (xs.set k v) := by
  unfold Made at h ⊢
  have : digCells (xs.set k v) = (digCells xs).set k (.int .u32 (v : Int)) := by unfold digCells; rw [List.map_set]
  simp [World.setCell, Array.getElem?_modify, h, this]
theorem Made.far {w : World} {g : Nat} {xs : List Nat} (h : Made w g xs) {p : Addr} (hp : g ≠ p.block) (u : Value) : Made (w.setCell p u) g xs := (Below.heap_setCell w p u g hp).trans h
theorem Made.lt {w : World} {g : Nat} {xs : List Nat} (h : Made w g xs) : g < w.heap.size := by
  rcases Nat.lt_or_ge g w.heap.size with hlt | hge
  · exact hlt
  · unfold Made at h; rw [Array.getElem?_eq_none hge] at h; cases h
theorem Made.below {w w' : World} {g : Nat} {xs : List Nat} (h : Made w g xs) {B : Nat} (hb : Below B w w') (hg : g < B) : Made w' g xs := (hb.block g hg).trans h
theorem Made.alloc {w : World} {g : Nat} {xs : List Nat} (h : Made w g xs) (o : Obj) : Made (w.alloc o) g xs := (Below.heap_alloc w o g h.lt).trans h
theorem Made.dig {w : World} {g : Nat} {xs : List Nat} (h : Made w g xs) (hd : Lt32 xs) (hl : xs.length ≤ 9223372036854775807) (B : Nat) : Dig B w (some ⟨g, 0, none⟩) xs.length xs.length xs := by
  refine ⟨⟨by simp [digCells_length], Nat.le_refl _, hl, fun _ => ⟨_, rfl, .inr ⟨_, h⟩, fun k u hu => ?_⟩⟩, hd⟩
  have ha : (⟨g, 0, none⟩ : Addr).add k = ⟨g, k, none⟩ := by unfold Addr.add; split <;> simp_all
  rw [ha, cell_of_row _ _ k _ _ _ h]
  simpa using hu

/-- A row of zero digits. -/
def zeroRow (n : Nat) : Array Value := (digCells (List.replicate n 0)).toArray
theorem Made.new (w : World) (n : Nat) : Made (w.alloc (.cells (zeroRow n) 109)) w.heap.size (List.replicate n 0) := heap_alloc_new w _
theorem run_make_digits (n : Nat) (x : Int) (hx : x = n) (hn : n ≤ 35184372088832) (w : World) :
    (Instr.makeSlice 44 (.int .i64 x) (.int .i64 x)).run Try.prog w = .ok (.slice (some ⟨w.heap.size, 0, none⟩) n n) (w.alloc (.cells (zeroRow n) 109)) := by
  obtain ⟨i0, hi, hz0, hz1, hz2⟩ := info_parts u32info
  subst hx
  have hr := run_make (P := Try.prog) w 44 109 i0 (.int .u32 0) Try.underlying44 hi hz0 .i64 .i64 n n (by omega) (by omega) (by rw [hz2]; omega) (by omega)
  rw [hr]
  have e : madeCells (Value.int IntKind.u32 0).cells (n * i0.size) = zeroRow n := by
    rw [hz1]
    refine Array.ext (by simp [madeCells, zeroRow, digCells]) fun i h1 h2 => ?_
    simp only [madeCells, zeroRow, digCells, Value.cells, Array.getElem_map, List.getElem_toArray, List.getElem_map, List.getElem_replicate]
    have : i % (#[Value.int IntKind.u32 0] : Array Value).size = 0 := Nat.mod_one _
    rw [Array.getElem_range, this]
    rfl
  simp [e]

/-- The state of a sum's loop: the row that is made, and the carry. -/
structure AddRel (w : World) (na : Nat) (zs : List Nat) (cy : Nat) (wr : World) : Prop where
  made : Made wr w.heap.size zs
  len : zs.length = na + 1
  lt : Lt32 zs
  car : Made wr (w.heap.size + 1) [cy]
  cy : cy ≤ 1
  below : Below w.heap.size w wr
theorem AddRel.carry {w wr : World} {na cy : Nat} {zs : List Nat} (h : AddRel w na zs cy wr) : wr.cell? ⟨w.heap.size + 1, 0, none⟩ = some (.int .u32 cy) := h.car.cell (k := 0) (by simp)
theorem AddRel.frozen {w wr : World} {na cy : Nat} {zs : List Nat} (h : AddRel w na zs cy wr) : wr.frozen? ⟨w.heap.size + 1, 0, none⟩ = false := h.car.frozen 0
theorem AddRel.start (w : World) (na : Nat) : AddRel w na (List.replicate (na + 1) 0) 0 ((w.alloc (Obj.cells (zeroRow (na + 1)) 109)).alloc (Obj.cells #[Value.int IntKind.u32 0] 109)) where
  made := (Made.new w (na + 1)).alloc _
  len := by simp
  lt := lt32_replicate _
  car := by
    have := heap_alloc_new (w.alloc (Obj.cells (zeroRow (na + 1)) 109)) (Obj.cells #[Value.int IntKind.u32 0] 109)
    simpa [Made, digCells] using this
  cy := by omega
  below := ((Below.refl _ _).alloc (Nat.le_refl _) _).alloc (by simp) _
theorem AddRel.step {w wr : World} {na cy : Nat} {zs : List Nat} (h : AddRel w na zs cy wr) (k s c' : Nat) (hs : s < 4294967296) (hc : c' ≤ 1) :
    AddRel w na (zs.set k s) c' ((wr.setCell ⟨w.heap.size + 1, 0, none⟩ (.int .u32 c')).setCell ⟨w.heap.size, k, none⟩ (.int .u32 s)) where
  made := (h.made.far (p := ⟨w.heap.size + 1, 0, none⟩) (by simp) _).set_ k s
  len := by simpa using h.len
  lt := h.lt.set k hs
  car := (h.car.set_ 0 c').far (p := ⟨w.heap.size, k, none⟩) (by simp) _
  cy := hc
  below := (h.below.setCell (by simp) _).setCell (by simp) _

/-- What the swap leaves: the longer number first. -/
def AddCut (B s : Nat) (w : World) (s0 s1 : Value) (wx : World) : Prop :=
  ∃ Aa na ca Ab nb cb p q, s0 = .slice Aa na ca ∧ s1 = .slice Ab nb cb ∧ Dig B w Aa na ca (digs p) ∧ Dig B w Ab nb cb (digs q) ∧ p + q = s ∧ nb ≤ na ∧ na ≤ 1099511627776 ∧ w = wx

theorem digs_len_of {B : Nat} {A : Option Addr} {n c : Nat} {xs : List Nat} {w : World} (hx : Dig B w A n c xs) : (digs (val xs)).length ≤ n := by
  have := val_lt hx.dig
  rw [hx.len] at this
  exact digs_length_le this

set_option maxRecDepth 100000 in
set_option maxHeartbeats 1000000 in
theorem add_any (B : Nat) (A A2 : Option Addr) (n c n2 c2 : Nat) (xs ys : List Nat) (w : World) (hx : Dig B w A n c xs) (hy : Dig B w A2 n2 c2 ys) (hn : n ≤ 1099511627776) (hn2 : n2 ≤ 1099511627776) :
    Calls Try.prog 71 #[.slice A n c, .slice A2 n2 c2] w (NatP B (val xs + val ys) w) := by
  have hxl := digs_len_of hx
  have hyl := digs_len_of hy
  go_enter Try.func71, Try.ntmps71
  go_wp2_with fail
  refine (trim_any B _ _ _ _ _ hx).mono ?_
  rintro e w' ⟨A', n', c', rfl, h', rfl⟩
  have hbd := h'.bd
  have hcap := h'.cap
  go_wp2_with fail
  refine (trim_any B _ _ _ _ _ hy).mono ?_
  rintro e w' ⟨A'2, n'2, c'2, rfl, h'2, rfl⟩
  have hbd2 := h'2.bd
  have hcap2 := h'2.cap
  have hn' : n' ≤ 1099511627776 := by have := h'.len; omega
  have hn2' : n'2 ≤ 1099511627776 := by have := h'2.len; omega
  clear hx hy hxl hyl
  generalize val xs = p at *
  generalize val ys = q at *
  go_upto_if 19 with (fail)
  go_cut [0, 1] (fun s0 s1 wx => AddCut B (p + q) w s0 s1 wx)
  case first =>
    by_cases hlt : n' < n'2
    · go_wp2
      go_meet
      exact ⟨_, _, _, _, _, _, q, p, rfl, rfl, h'2, h', Nat.add_comm _ _, by omega, hn2', rfl⟩
    · go_wp2
      go_meet
      exact ⟨_, _, _, _, _, _, p, q, rfl, rfl, h', h'2, rfl, by omega, hn', rfl⟩
  case rest =>
    clear h' h'2 hbd hcap hbd2 hcap2 hn' hn2'
    obtain ⟨Aa, na, ca, Ab, nb, cb, p', q', rfl, rfl, ha, hb, hsum, hle, hna, rfl⟩ := hcut
    have HS := Lib.hid hsum
    clear hsum
    have hmk := fun W => run_make_digits (na + 1) ((na : Int) + 1) (by omega) (by omega) W
    go_wp2
    go_loopw [29] (fun i wr => ∃ (k cy : Nat) (zs : List Nat), k ≤ nb ∧ i = .int .i64 k ∧ AddRel w na zs cy wr ∧ Hid (val (zs.take k) + bp k * cy = val ((digs p').take k) + val ((digs q').take k)))
      (fun i _ => nb - (intOf i).toNat)
    case atStart => exact ⟨0, 0, _, Nat.zero_le _, rfl, AddRel.start w na, Lib.hid (by simp [val_nil])⟩
    case round =>
      obtain ⟨k, cy, zs, hk, rfl, hR, HV⟩ := hrel
      have hcy := hR.cy
      have hcell := hR.carry
      have hfr := hR.frozen
      by_cases hlt : k < nb
      · obtain ⟨ad, rfl, hca⟩ := ha.cell k (by omega)
        obtain ⟨ad2, rfl, hcb⟩ := hb.cell k hlt
        have hca' := (hR.below.cell (World.block_lt_of_cell? w _ hca)).trans hca
        have hcb' := (hR.below.cell (World.block_lt_of_cell? w _ hcb)).trans hcb
        have hout := hR.made.cell (k := k) (by rw [hR.len]; omega)
        have houtf := hR.made.frozen k
        have hda := ha.dig k
        have hdb := hb.dig k
        have hkz : k < zs.length := by rw [hR.len]; omega
        have hkx : k < (digs p').length := by rw [ha.len]; omega
        have hky : k < (digs q').length := by rw [hb.len]; exact hlt
        have HN := Lib.hid (add_round hkz hkx hky HV.out)
        have HR2 := hR.step k ((dg (digs p') k + dg (digs q') k + cy) % 4294967296) ((dg (digs p') k + dg (digs q') k + cy) / 4294967296) (by omega) (by omega)
        clear hca hcb HV hkz hkx hky hmk
        go_wp2_with fail
        refine (add1_any _ _ _ _ _ hda hdb hcy hcell hfr).mono ?_
        rintro e w' ⟨rfl, rfl⟩
        go_wp2
        go_roundw
        case rel => exact ⟨k + 1, _, _, by omega, by go_num, HR2, HN⟩
        case measure => simp [intOf]; omega
      · have hk' : k = nb := by omega
        subst hk'
        have HV2 := Lib.hid (show val (zs.take k) + bp k * cy = val ((digs p').take k) + q' by rw [HV.out, val_take_all (digs q') k (by rw [hb.len]; exact Nat.le_refl _), val_digs q'])
        clear HV hmk hcell hfr
        go_wp2
        go_loopw [10] (fun i wr => ∃ (m cy : Nat) (zs : List Nat), m ≤ na ∧ i = .int .i64 m ∧ AddRel w na zs cy wr ∧ Hid (val (zs.take m) + bp m * cy = val ((digs p').take m) + q'))
          (fun i _ => na - (intOf i).toNat)
        case atStart => exact ⟨k, _, _, hle, rfl, hR, HV2⟩
        case round =>
          clear HV2 hR hcy
          obtain ⟨m, cy, zs, hm, rfl, hR, HV⟩ := hrel
          have hcy := hR.cy
          have hcell := hR.carry
          have hfr := hR.frozen
          by_cases hlt : m < na
          · obtain ⟨ad, rfl, hca⟩ := ha.cell m (by omega)
            have hca' := (hR.below.cell (World.block_lt_of_cell? w _ hca)).trans hca
            have hout := hR.made.cell (k := m) (by rw [hR.len]; omega)
            have houtf := hR.made.frozen m
            have hda := ha.dig m
            have hkz : m < zs.length := by rw [hR.len]; omega
            have hkx : m < (digs p').length := by rw [ha.len]; omega
            have HN := Lib.hid (add_round2 hkz hkx HV.out)
            have HR2 := hR.step m ((dg (digs p') m + 0 + cy) % 4294967296) ((dg (digs p') m + 0 + cy) / 4294967296) (by omega) (by omega)
            clear hca HV hkz hkx
            go_wp2_with fail
            refine (add1_any _ 0 _ _ _ hda (by omega) hcy hcell hfr).mono ?_
            rintro e w' ⟨rfl, rfl⟩
            go_wp2
            go_roundw
            case rel => exact ⟨m + 1, _, _, by omega, by go_num, HR2, HN⟩
            case measure => simp [intOf]; omega
          · have hm' : m = na := by omega
            subst hm'
            have hout := hR.made.cell (k := m) (by rw [hR.len]; omega)
            have houtf := hR.made.frozen m
            have hval : val (zs.set m cy) = p' + q' := by
              rw [add_last hR.len, HV.out, val_take_all (digs p') m (by rw [ha.len]; exact Nat.le_refl _), val_digs p']
            have HVal := Lib.hid hval
            have hmade := hR.made.set_ m cy
            have hlen : (zs.set m cy).length = m + 1 := by simpa using hR.len
            have hlt32 := hR.lt.set m (v := cy) (by omega)
            have hd := hmade.dig hlt32 (by omega) B
            rw [hlen] at hd
            have hbel := hR.below.setCell (p := ⟨w.heap.size, m, none⟩) (by simp) (.int .u32 cy)
            clear hval hmade hlen hlt32 HV hR
            go_wp2_with fail
            refine (trim_any B _ _ _ _ _ hd).mono ?_
            rintro e w' ⟨Az, nz, cz, rfl, hz, rfl⟩
            go_wp2
            go_ret
            rw [HVal.out] at hz
            rw [← HS.out]
            exact ⟨_, _, _, rfl, hz, hbel⟩
end Go.Proofs.Ytnknidfpkmnncaa
