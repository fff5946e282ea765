/-
  The walks of the small library functions and of the comparisons: what each hands back, for any bytes; the world is as it was, but for draws and blocks of the call's own.
-/
import Derived.Test.YtpohhlddbdepcaaRows
import Derived.Test.YtpohhlddbdepcaaH
import Derived.Lib.UnsafeStr
import Derived.Lib.Bytealg
import Derived.Laws.Externs
import Derived.BigQuiet
import Derived.Deep.QuietTactic
namespace Go.Proofs.Ytpohhlddbdepcaa
open Go.RowKit

section
variable {P : Program}
theorem run_loadU8 (w : World) : ∀ (l : List UInt8) (a : Addr) (acc : ByteArray), (∀ j x, l[j]? = some x → w.cell? (a.add j) = some (.int .u8 x.toNat)) →
    (Extern.Bytes.loadBytes a l.length acc).run P w = .ok ⟨acc.data ++ l.toArray⟩ w
  | [], a, acc, _ => by simp [Extern.Bytes.loadBytes]
  | x :: l, a, acc, h => by
    have h0 : w.cell? a = some (.int .u8 x.toNat) := by
      have := h 0 x rfl
      simpa [Addr.add] using this
    have ih := run_loadU8 w l (a.add 1) (acc.push x) (fun j y hy => by
      have := h (j + 1) y (by simpa using hy)
      have e : (a.add 1).add j = a.add (j + 1) := by
        unfold Addr.add
        by_cases hj : j = 0
        · subst hj; simp
        · simp [hj]; omega
      rw [e]; exact this)
    have hx : ((x.toNat : Int).toNat).toUInt8 = x := by simp
    simp only [List.length_cons, Extern.Bytes.loadBytes, Sem.run_bind, run_load, h0, Result.andThen, hx]
    rw [ih]
    congr 1
    apply ByteArray.ext
    simp [ByteArray.push]

theorem run_bytesOf {B : Nat} {w : World} {v : Value} {l : List UInt8} (h : BAt B w v l) : (Extern.Bytes.bytesOf v).run P w = .ok ⟨l.toArray⟩ w := by
  obtain ⟨a, c, rfl, hlc, hr⟩ := h
  cases a with
  | none =>
    have : l = [] := by
      rcases l with _ | ⟨x, l⟩
      · rfl
      · obtain ⟨b, o, ha, _⟩ := hr 0 (by simp)
        cases ha
    subst this
    rfl
  | some p =>
    have hc : ∀ j x, l[j]? = some x → w.cell? (p.add j) = some (.int .u8 x.toNat) := fun j x hx => hr.cells j _ (by simp [hx, u8])
    have := run_loadU8 (P := P) w l p ByteArray.empty hc
    simpa [Extern.Bytes.bytesOf] using this

theorem run_bytealgCompare {B C : Nat} {w : World} {v u : Value} {l m : List UInt8} (h : BAt B w v l) (k : BAt C w u m) :
    (Extern.BytealgCompare.compare #[v, u]).run P w = .ok (.int .i64 (Lib.compareBytes l m)) w := by
  change Sem.run P (do pure (goInt (Extern.BytealgCompare.cmp (← Extern.Bytes.bytesOf v) (← Extern.Bytes.bytesOf u)))) w = _
  simp only [Sem.run_bind, run_bytesOf h, Result.andThen_ok, run_bytesOf k, Sem.run_pure]
  rw [Lib.cmp_eq]
  rfl
end

theorem Try_e42 (args : Array Value) (w : World) : (callFunc 42 args).run Try.prog w = ((Extern.BytealgCompare.compare args).run Try.prog w).andThen fun v w' => .ok (.value v) w' :=
  run_callFunc_extern Try.func42 (by kernel_rfl) (by kernel_rfl) (by kernel_rfl) (e := Extern.BytealgCompare.compare) (by kernel_rfl) args w

set_option maxHeartbeats 400000 in
theorem bytes_Compare {B C : Nat} {w : World} {v u : Value} {l m : List UInt8} (h : BAt B w v l) (k : BAt C w u m) :
    Calls Try.prog 41 #[v, u] w fun e w' => e = .returned (.int .i64 (Lib.compareBytes l m)) ∧ w = w' := by
  have hr := run_bytealgCompare (P := Try.prog) h k
  have he := Try_e42 #[v, u] w
  rw [hr] at he
  clear hr
  go_enter Try.func41, Try.ntmps41
  go_wp2
  go_ret
  exact ⟨rfl, rfl⟩

set_option maxHeartbeats 400000 in
theorem codec_Compare {B C : Nat} {w : World} {v u : Value} {l m : List UInt8} (h : BAt B w v l) (k : BAt C w u m) :
    Calls Try.prog 40 #[v, u] w fun e w' => e = .returned (.int .i64 (Lib.compareBytes l m)) ∧ w = w' := by
  go_enter Try.func40, Try.ntmps40
  go_wp2_with (go_at_call 41; refine (bytes_Compare h k).mono ?_; rintro e w' ⟨rfl, rfl⟩)
  go_ret
  exact ⟨rfl, rfl⟩

theorem run_bytesEq (src dst e : TypeId) {P : Program} {B : Nat} {w : World} {v : Value} {l : List UInt8} (hs : P.underlying src = some (.slice e)) (he : P.underlying e = some (.int .u8)) (hd : P.underlying dst = some .string)
    (h : BAt B w v l) : (convert src dst v).run P w = .ok (.string ⟨l.toArray⟩) w := by
  obtain ⟨a, c, rfl, hlc, hr⟩ := h
  cases a with
  | none =>
    have : l = [] := by
      rcases l with _ | ⟨x, l⟩
      · rfl
      · obtain ⟨b, o, ha, _⟩ := hr 0 (by simp)
        cases ha
    subst this
    rw [run_convert_bytes_string w src dst e none _ c hs he hd]
    rfl
  | some p => exact run_convert_bytes_back w src dst e p c l hs he hd fun j hj => hr.cells j _ (by simp [List.getElem?_eq_getElem hj, u8])

theorem beq_bytes (l m : List UInt8) : ((⟨l.toArray⟩ : ByteArray) == ⟨m.toArray⟩) = (l == m) := by
  rw [show ((⟨l.toArray⟩ : ByteArray) == ⟨m.toArray⟩) = (l.toArray == m.toArray) from rfl]
  rw [Bool.eq_iff_iff, beq_iff_eq, beq_iff_eq]
  simp

set_option maxHeartbeats 400000 in
theorem bytes_Equal {B C : Nat} {w : World} {v u : Value} {l m : List UInt8} (h : BAt B w v l) (k : BAt C w u m) :
    Calls Try.prog 29 #[v, u] w fun e w' => e = .returned (.bool (l == m)) ∧ w = w' := by
  have h1 := run_bytesEq 29 9 5 (P := Try.prog) Try.underlying29 Try.underlying5 Try.underlying9 h
  have h2 := run_bytesEq 29 9 5 (P := Try.prog) Try.underlying29 Try.underlying5 Try.underlying9 k
  go_enter Try.func29, Try.ntmps29
  go_wp2
  go_ret
  exact ⟨by rw [← beq_bytes]; rfl, rfl⟩

theorem Try_infoU8 : (Try.prog.info? 5).map (fun i => (i.zero, i.size, i.bytes)) = some (some (.int .u8 0), 1, 1) := by kernel_rfl
theorem Try_infoInt : (Try.prog.info? 3).map (fun i => (i.zero, i.size, i.bytes)) = some (some (.int .i64 0), 1, 8) := by kernel_rfl
theorem u8_one (l : List UInt8) : ∀ u ∈ l.map u8, u.oneCell' = true := by
  intro u hu
  obtain ⟨x, _, rfl⟩ := List.mem_map.1 hu
  rfl

set_option maxHeartbeats 400000 in
theorem bytes_Clone {B : Nat} {w : World} {v : Value} {l : List UInt8} (h : BAt B w v l) (hB : B ≤ w.heap.size) (hl : Big l) :
    Calls Try.prog 37 #[v] w fun e w' => ∃ u, e = .returned u ∧ BOwn w.heap.size w' u l ∧ Below w.heap.size w w' := by
  obtain ⟨i0, hi0, hz0, hz1, hz2⟩ := info_parts Try_infoU8
  unfold Big at hl
  obtain ⟨a, c, rfl, hlc, hr⟩ := h
  cases a with
  | none =>
    have hl0 : l = [] := by simpa using hr.none_
    subst hl0
    have heq := Lib.run_eql_slice_nil (P := Try.prog) w 29 5 none 0 c 0 0 Try.underlying29
    go_enter Try.func37, Try.ntmps37
    go_wp2_with fail
    go_ret
    exact ⟨_, rfl, .inl ⟨rfl, rfl⟩, Below.refl _ _⟩
  | some p =>
    have heq := Lib.run_eql_slice_nil (P := Try.prog) w 29 5 (some p) l.length c 0 0 Try.underlying29
    have hown : (w.alloc (.cells #[] 5)).ownsRow w.heap.size 5 1 (.slice (some ⟨w.heap.size, 0, none⟩) 0 0) 0 [] := World.ownsRow_made w #[] 0 (Nat.le_refl _) (by unfold maxLen; omega) rfl
    have hr2 : RAt B (w.alloc (.cells #[] 5)) (some p) (l.map u8) := hr.lift hB (World.below_alloc (Nat.le_refl _) _)
    have h0 : Below w.heap.size w (w.alloc (.cells #[] 5)) := World.below_alloc (Nat.le_refl _) _
    go_enter Try.func37, Try.ntmps37
    go_wp2_with (at_builtin; refine wpList_append_src _ rfl (.tmp 5) (.tmp 6) 29 rfl w.heap.size 5 i0 _ 1 1 Try.underlying29 hi0 hz0 hz1 hz2 rfl (by decide) (.slice (some ⟨w.heap.size, 0, none⟩) 0 0) 0 [] rfl hown B (some p) l.length c (l.map u8) rfl (by simp) hr2 (u8_one l) (by unfold maxLen; omega) (by omega) h0.size ?_; intro v1 w1 hown1 hg1 hat1)
    go_ret
    exact ⟨v1, rfl, BOwn.of_row hown1 (by simp), h0.grown hg1 h0.size (by simp [Value.ownBlock])⟩

set_option maxHeartbeats 400000 in
theorem slices_Clip {w : World} {lo : Nat} {v : Value} {l : List UInt8} (h : BOwn lo w v l) :
    Calls Try.prog 36 #[v] w fun e w' => ∃ u, e = .returned u ∧ BOwn lo w u l ∧ w = w' := by
  rcases h with ⟨rfl, rfl⟩ | ⟨b, c, cs, rfl, hlc, h1, hb, ht⟩
  · go_enter Try.func36, Try.ntmps36
    go_wp2_with fail
    go_ret
    exact ⟨_, rfl, .inl ⟨rfl, rfl⟩, rfl⟩
  · have HT := Lib.hid ht
    have HB := Lib.hid hb
    clear ht hb
    go_enter Try.func36, Try.ntmps36
    go_wp2_with fail
    go_ret
    exact ⟨_, rfl, .inr ⟨b, l.length, cs, by simp, Nat.le_refl _, h1, HB.out, HT.out⟩, rfl⟩

/-- A slice of ints that reads as zs. -/
def IAt (B : Nat) (w : World) (v : Value) (zs : List Int) : Prop := ∃ a c, v = .slice a zs.length c ∧ zs.length ≤ c ∧ RAt B w a (zs.map (.int .i64))

/-- The call's own ints. -/
def IOwn (lo : Nat) (w : World) (v : Value) (zs : List Int) : Prop := (v = .slice none 0 0 ∧ zs = []) ∨ (∃ g c, v = .slice (some ⟨g, 0, none⟩) zs.length c) ∧ w.ownsRow lo 3 1 v zs.length (zs.map (.int .i64))

set_option maxHeartbeats 400000 in
theorem slices_Clone_ints {B : Nat} {w : World} {v : Value} {l : List Int} (h : IAt B w v l) (hB : B ≤ w.heap.size) (hl : l.length * 8 ≤ 140737488355328) :
    Calls Try.prog 27 #[v] w fun e w' => ∃ u, e = .returned u ∧ w'.ownsRow w.heap.size 3 1 u l.length (l.map (.int .i64)) ∧ Below w.heap.size w w' := by
  obtain ⟨i0, hi0, hz0, hz1, hz2⟩ := info_parts Try_infoInt
  obtain ⟨a, c, rfl, hlc, hr⟩ := h
  cases a with
  | none =>
    have hl0 : l = [] := by simpa using hr.none_
    subst hl0
    have heq := Lib.run_eql_slice_nil (P := Try.prog) w 22 3 none 0 c 0 0 Try.underlying22
    go_enter Try.func27, Try.ntmps27
    go_wp2_with fail
    go_ret
    exact ⟨_, rfl, World.ownsRow_nil _ _ _ _, Below.refl _ _⟩
  | some p =>
    have heq := Lib.run_eql_slice_nil (P := Try.prog) w 22 3 (some p) l.length c 0 0 Try.underlying22
    have hown : (w.alloc (.cells #[] 3)).ownsRow w.heap.size 3 1 (.slice (some ⟨w.heap.size, 0, none⟩) 0 0) 0 [] := World.ownsRow_made w #[] 0 (Nat.le_refl _) (by unfold maxLen; omega) rfl
    have hr2 : RAt B (w.alloc (.cells #[] 3)) (some p) (l.map (.int .i64)) := hr.lift hB (World.below_alloc (Nat.le_refl _) _)
    have h0 : Below w.heap.size w (w.alloc (.cells #[] 3)) := World.below_alloc (Nat.le_refl _) _
    go_enter Try.func27, Try.ntmps27
    go_wp2_with (at_builtin; refine wpList_append_src _ rfl (.tmp 5) (.tmp 6) 22 rfl w.heap.size 3 i0 _ 1 8 Try.underlying22 hi0 hz0 hz1 hz2 rfl (by decide) (.slice (some ⟨w.heap.size, 0, none⟩) 0 0) 0 [] rfl hown B (some p) l.length c (l.map (.int .i64)) rfl (by simp) hr2 (ints_oneCell _ l) (by unfold maxLen; omega) (by omega) h0.size ?_; intro v1 w1 hown1 hg1 hat1)
    go_ret
    exact ⟨v1, rfl, by simpa using hown1, h0.grown hg1 h0.size (by simp [Value.ownBlock])⟩

theorem compareBytes_drop {l m : List UInt8} {k : Nat} (h1 : k < l.length) (h2 : k < m.length) :
    Lib.compareBytes (l.drop k) (m.drop k) = if l[k].toNat < m[k].toNat then -1 else if m[k].toNat < l[k].toNat then 1 else Lib.compareBytes (l.drop (k + 1)) (m.drop (k + 1)) := by
  rw [List.drop_eq_getElem_cons h1, List.drop_eq_getElem_cons h2, Lib.compareBytes]
  simp only [UInt8.lt_iff_toNat_lt]

theorem compareBytes_end {l m : List UInt8} {k : Nat} (h1 : k ≤ l.length) (h2 : k ≤ m.length) (h : k = l.length ∨ k = m.length) :
    Lib.compareBytes (l.drop k) (m.drop k) = if l.length = m.length then 0 else if l.length < m.length then -1 else 1 := by
  rcases h with rfl | rfl
  · rw [List.drop_length]
    cases hm : m.drop l.length with
    | nil =>
      have : m.length ≤ l.length := by simpa using hm
      rw [if_pos (by omega)]; rfl
    | cons y ys =>
      have : l.length < m.length := by
        have := congrArg List.length hm
        simp at this; omega
      rw [if_neg (by omega), if_pos this]; rfl
  · rw [List.drop_length]
    cases hm : l.drop m.length with
    | nil =>
      have : l.length ≤ m.length := by simpa using hm
      rw [if_pos (by omega)]; rfl
    | cons y ys =>
      have : m.length < l.length := by
        have := congrArg List.length hm
        simp at this; omega
      rw [if_neg (by omega), if_neg (by omega)]; rfl

set_option maxHeartbeats 1000000 in
theorem ref_Compare {B C : Nat} {w : World} {v u : Value} {l m : List UInt8} (h : BAt B w v l) (k : BAt C w u m) (hl : Big l) (hm : Big m) :
    Calls Try.prog 33 #[v, u] w fun e w' => e = .returned (.int .i64 (Lib.compareBytes l m)) ∧ ∃ n, w' = w.drewN n := by
  unfold Big at hl hm
  have Hl := Lib.hid h
  have Hm := Lib.hid k
  obtain ⟨a, ca, rfl, hca, hra⟩ := h
  obtain ⟨b, cb, rfl, hcb, hrb⟩ := k
  clear hra hrb
  go_enter Try.func33, Try.ntmps33
  go_wp2_with fail
  go_loopw [5] (fun i wr => ∃ k : Nat, ∃ n, k ≤ l.length ∧ k ≤ m.length ∧ i = .int .i64 k ∧ wr = w.drewN n ∧ Hid (Lib.compareBytes l m = Lib.compareBytes (l.drop k) (m.drop k))) (fun i _ => l.length - (intOf i).toNat)
  case atStart => exact ⟨0, 0, by omega, by omega, rfl, rfl, Lib.hid rfl⟩
  case round =>
    obtain ⟨k, n, hkx, hky, rfl, rfl, HC⟩ := hrel
    by_cases h1 : k < l.length
    · by_cases h2 : k < m.length
      · obtain ⟨ba, oa, ca', hva, hlca, hba, hc1⟩ := Hl.out.at_ h1
        obtain ⟨bb, ob, cb', hvb, hlcb, hbb, hc2⟩ := Hm.out.at_ h2
        cases hva
        cases hvb
        have HD := Lib.hid (compareBytes_drop h1 h2)
        go_wp2_with fail
        go_quiet (fail)
        go_wp2_with fail
        · go_quiet (fail)
          go_wp2_with fail
          · have hlt : l[k].toNat < m[k].toNat := by assumption
            go_ret
            exact ⟨ret_int (by rw [HC.out, HD.out, if_pos hlt]), _, by rw [World.drewN_drewN, World.drewN_drewN]⟩
          · have hlt : ¬ l[k].toNat < m[k].toNat := by assumption
            have hne : ((l[k].toNat : Int) != (m[k].toNat : Int)) = true := by assumption
            have hgt : m[k].toNat < l[k].toNat := by simp at hne; omega
            go_ret
            exact ⟨ret_int (by rw [HC.out, HD.out, if_neg hlt, if_pos hgt]), _, by rw [World.drewN_drewN, World.drewN_drewN]⟩
        · have hne : ((l[k].toNat : Int) != (m[k].toNat : Int)) = false := by assumption
          have he : l[k].toNat = m[k].toNat := by simp at hne; omega
          go_roundw
          case rel => exact ⟨k + 1, _, by omega, by omega, by go_num, rfl, Lib.hid (by rw [HC.out, HD.out, if_neg (by omega), if_neg (by omega)])⟩
          case measure => simp [intOf]; omega
      · have HD := Lib.hid (compareBytes_end hkx hky (.inr (by omega)))
        go_wp2_with fail
        go_ret
        exact ⟨ret_int (by rw [HC.out, HD.out, if_neg (by omega), if_neg (by omega)]), _, rfl⟩
    · have HD := Lib.hid (compareBytes_end hkx hky (.inl (by omega)))
      go_wp2_with fail
      · have he : ((l.length : Int) == (m.length : Int)) = true := by assumption
        go_ret
        exact ⟨ret_int (by rw [HC.out, HD.out, if_pos (by simp at he; omega)]), _, rfl⟩
      · have he : ((l.length : Int) == (m.length : Int)) = false := by assumption
        have hlt : l.length < m.length := by assumption
        go_ret
        exact ⟨ret_int (by rw [HC.out, HD.out, if_neg (by simp at he; omega), if_pos hlt]), _, rfl⟩
      · have he : ((l.length : Int) == (m.length : Int)) = false := by assumption
        have hlt : ¬ l.length < m.length := by assumption
        go_ret
        exact ⟨ret_int (by rw [HC.out, HD.out, if_neg (by simp at he; omega), if_neg hlt]), _, rfl⟩

end Go.Proofs.Ytpohhlddbdepcaa
