/-
  The contract of Encode for keys and hidden keys.
  Condition: the library's functions do what the table tells (stJ).
-/
import Derived.Test.YtiphckeipbfbmaaGreatDoorJCon
import Derived.Lib.ItoaLen
namespace Go.Proofs.YtiphckeipbfbmaaGreatDoor
open Go Go.AE Go.DE Go.RowKit

noncomputable def chkC : ConF := inl Tryz.prog (env [(39, inl0 Tryz.f39)] noLp 0) Tryz.f14
theorem chk_ok : ConOk Tryz.prog stJ 14 chkC :=
  inl_ok Tryz.func14 (by kernel_rfl) (by kernel_rfl) (ext_none fun _ _ _ => rfl) (glOk _) (tblD_env (l := [(39, inl0 Tryz.f39)]) (fun x hx => by
    obtain rfl : x = (39, inl0 Tryz.f39) := by simpa using hx
    exact named_ok)) (fun _ _ _ h => nomatch h)

/-- Hexadecimal digits. -/
def HEX : ByteArray := ⟨#[48, 49, 50, 51, 52, 53, 54, 55, 56, 57, 97, 98, 99, 100, 101, 102]⟩
def hq (b : Int) : Int := IntKind.u8.wrap (Int.tdiv b 16)
def hr (b : Int) : Int := Int.tmod b 16
def up (b : Int) : Int := IntKind.u8.wrap (b + 1)
def dig (b : Int) : ByteArray := HEX.extract b.toNat (up b).toNat
def pair (b : Int) : ByteArray := dig (hq b) ++ dig (hr b)
def hexS (s : ByteArray) : Nat → ByteArray
  | 0 => ⟨#[]⟩
  | j + 1 => hexS s j ++ pair (byteAt s j)
theorem hex_facts : ∀ n, n < 256 → (up (hq (n : Nat)) ≤ 16 ∧ hq (n : Nat) ≤ ((up (hq (n : Nat))).toNat : Nat) ∧ up (hr (n : Nat)) ≤ 16 ∧ hr (n : Nat) ≤ ((up (hr (n : Nat))).toNat : Nat) ∧ (dig (hq (n : Nat))).size = 1 ∧ (dig (hr (n : Nat))).size = 1) := by decide +kernel
theorem byteAt_lt (s : ByteArray) (j : Nat) : ∃ n : Nat, byteAt s j = n ∧ n < 256 := ⟨_, rfl, UInt8.toNat_lt _⟩
theorem pair_size (s : ByteArray) (j : Nat) : (pair (byteAt s j)).size = 2 := by
  obtain ⟨n, e, hn⟩ := byteAt_lt s j
  obtain ⟨_, _, _, _, h1, h2⟩ := hex_facts n hn
  rw [e]
  unfold pair
  rw [ByteArray.size_append, h1, h2]
theorem hexS_size (s : ByteArray) : ∀ j, (hexS s j).size = 2 * j
  | 0 => rfl
  | j + 1 => by
    rw [hexS, ByteArray.size_append, hexS_size s j, pair_size]
    omega

def bytesB (s : ByteArray) : DBlk := ⟨1, .tab s.size fun i _ => .v (.int .u8 (byteAt s i))⟩
def oneB (t : ByteArray) : DBlk := ⟨1, .lst [[sv t]]⟩
theorem hex_tree (s h t : ByteArray) (j : Nat) (K : Ex → Nat → List DV → List DV → DHeap → Option Unit) :
    execD Tryz.prog (env [] noLp 0) (loopAt Tryz.f12 125930) 500 (temps 107 [5, 8, 74, 75, 76] [.os 1 0 1, sv h, .os 2 0 s.size, iv (s.size : Nat), iv (j : Nat)]) [none, some (oneB t), some (bytesB s)] (fun e τ σ => K e τ.length (pick [5, 8, 74, 75, 76] τ) (pick [5, 8] τ) σ) =
      bif decide ((j : Int) < (s.size : Nat)) then
        bif decide ((j : Int) < (s.size : Nat)) then
          bif decide (0 + j + 0 / 1 < s.size) then
            bif decide (up (hq (byteAt s (0 + j + 0 / 1))) ≤ 16) then
              bif decide (hq (byteAt s (0 + j + 0 / 1)) ≤ ((up (hq (byteAt s (0 + j + 0 / 1)))).toNat : Nat)) then
                bif decide (up (hr (byteAt s (0 + j + 0 / 1))) ≤ 16) then
                  bif decide (hr (byteAt s (0 + j + 0 / 1)) ≤ ((up (hr (byteAt s (0 + j + 0 / 1)))).toNat : Nat)) then
                    bif decide ((dig (hq (byteAt s (0 + j + 0 / 1)))).size + (dig (hr (byteAt s (0 + j + 0 / 1)))).size ≤ 9223372036854775807) then
                      bif decide (h.size + (pair (byteAt s (0 + j + 0 / 1))).size ≤ 9223372036854775807) then
                        K .normal 107 [.os 1 0 1, sv (h ++ pair (byteAt s (0 + j + 0 / 1))), .os 2 0 s.size, iv (s.size : Nat), iv (IntKind.i64.wrap ((j : Int) + 1))] [.os 1 0 1, sv (h ++ pair (byteAt s (0 + j + 0 / 1)))] [none, some (oneB t), some (bytesB s)]
                      else none
                    else none
                  else none
                else none
              else none
            else none
          else none
        else none
      else K (.exit 1) 107 [.os 1 0 1, sv h, .os 2 0 s.size, iv (s.size : Nat), iv (j : Nat)] [.os 1 0 1, sv h] [none, some (oneB t), some (bytesB s)] := by
  kernel_rfl

structure HX where
  s : ByteArray
  t : ByteArray
  j : Nat
def hexI : LInv HX where
  pre x := x.j ≤ x.s.size ∧ x.s.size ≤ 1000
  m := 3
  n := 107
  ps := [5, 8, 74, 75, 76]
  sd x := [.os 1 0 1, sv (hexS x.s x.j), .os 2 0 x.s.size, iv (x.s.size : Nat), iv (x.j : Nat)]
  sh x := [none, some (oneB x.t), some (bytesB x.s)]
  meas x := x.s.size - x.j
  e _ := .exit 1
  qs := [5, 8]
  od x := [.os 1 0 1, sv (hexS x.s x.s.size)]
  oh x := [none, some (oneB x.t), none]
  guess _ σ := match σ with
    | some ⟨_, .lst [[_, _, _, .v (.string s), _, _, _, _, _, _]]⟩ :: some ⟨_, .lst [[.v (.string t)]]⟩ :: _ => some ⟨s, t, 0⟩
    | _ => none
  cps x k := k (.exit 1) [.os 1 0 1, sv (hexS x.s x.s.size)] [none, some (oneB x.t), none]
theorem sub_one {r : Nat → Option Nat} {t : ByteArray} : SubC r (oneB t) (oneB t) := subC_lst fun x hx d hd => by
  obtain rfl : x = [sv t] := by simpa using hx
  obtain rfl : d = sv t := by simpa using hd
  exact .v _
theorem sub_bytes {r : Nat → Option Nat} {s : ByteArray} : SubC r (bytesB s) (bytesB s) := subC_same trivial fun _ _ _ _ => .v _
theorem W_in {x : Int} (h1 : -9223372036854775808 ≤ x) (h2 : x ≤ 9223372036854775807) : IntKind.i64.wrap x = x := by
  rw [IntKind.wrap_i64]
  omega
theorem hex_ls : LoopS Tryz.prog stJ gl0 (.loop (loopAt Tryz.f12 125930)) hexI.g := by
  refine hexI.ok (E := env [] noLp 0) (p := 500) (tblD_env (l := []) (fun _ h => nomatch h)) (glOk stJ).1 (fun _ _ _ h => nomatch h) (fun x k h => h) fun x hx => ?_
  obtain ⟨s, t, j⟩ := x
  obtain ⟨h1, h2⟩ : j ≤ s.size ∧ s.size ≤ 1000 := hx
  refine (hex_tree s (hexS s j) t j _).trans ?_
  rcases Nat.lt_or_ge j s.size with hlt | hge
  · have ej : 0 + j + 0 / 1 = j := by simp
    rw [ej]
    obtain ⟨n, e, hn⟩ := byteAt_lt s j
    obtain ⟨q1, q2, q3, q4, q5, q6⟩ := hex_facts n hn
    have hp := pair_size s j
    have hh := hexS_size s j
    rw [← e] at q1 q2 q3 q4 q5 q6
    refine dT (by omega) (dT (by omega) (dT hlt (dT q1 (dT q2 (dT q3 (dT q4 (dT (by omega) (dT (by omega) ?_))))))))
    rw [W_in (by omega) (by omega)]
    refine LInv.ask_of ⟨rfl, ⟨s, t, j + 1⟩, ⟨rfl, rfl, rfl, hlt, h2⟩, ?_, [], ?_⟩
    · show s.size - (j + 1) < s.size - j
      omega
    · show WkP 3 [] _ _ [.os 1 0 1, sv (hexS s j ++ pair (byteAt s j)), .os 2 0 s.size, iv (s.size : Nat), iv ((j + 1 : Nat) : Int)] [none, some (oneB t), some (bytesB s)]
      exact .of (im := [some 1, some 2]) (.cons (.os rfl) (.cons (.v _) (.cons (.os rfl) (.cons (.v _) (.cons (.eq (by simp)) .nil))))) rfl ⟨⟨1, _, rfl, rfl, sub_one⟩, ⟨2, _, rfl, rfl, sub_bytes⟩, trivial⟩ rfl (by decide)
  · obtain rfl : j = s.size := by omega
    refine dF (by omega) ?_
    exact LInv.ask_of ⟨rfl, rfl, [], .of (im := [some 1]) (.cons (.os rfl) (.cons (.v _) .nil)) rfl ⟨⟨1, _, rfl, rfl, sub_one⟩, trivial⟩ rfl (by decide)⟩

noncomputable abbrev encL : List (FuncId × ConF) := [(14, chkC), (29, itoaC), (33, joinC)]
theorem enc4_tree (t : Int) (s : ByteArray) (k : DV → Option Unit) : bodyD Tryz.prog (env encL (lpOf [(125930, hexI.g)]) 0) Tryz.f12 [.agg [iv 4, iv t, .v (.slice none 0 0), sv s, iv 0, bv false, bv false, iv 0, bv false, iv 0]] [] (fun d _ => k d) =
    bif decide (t < (0 : Int)) then k (DV.tup [DV.v (Value.string { data := #[] }), DV.v (Value.int IntKind.i64 (2 : Int))])
    else
      bif decide (t > (1099511627776 : Int)) then
        k (DV.tup [DV.v (Value.string { data := #[] }), DV.v (Value.int IntKind.i64 (2 : Int))])
      else
        bif ByteArray.toList s == ByteArray.toList { data := #[] } then
          bif holds ((-9223372036854775808 : Int) ≤ t ∧ t ≤ (9223372036854775807 : Int)) then
            bif
                holds
                  (strsOk
                      (fun j f =>
                        lend1
                          (DC.get
                            (appC (DBlk.c (blockOf (1 : Nat) [DV.v (Value.string { data := List.toArray (Lib.itoa t) })]))
                              (1 : Nat)
                              (subC
                                (DBlk.c
                                  (blockOf (1 : Nat)
                                    [DV.v
                                        (Value.string
                                          {
                                            data :=
                                              #[(104 : UInt8), (105 : UInt8), (100 : UInt8), (100 : UInt8), (101 : UInt8),
                                                (110 : UInt8)] })]))
                                (0 : Nat) (1 : Nat)))
                            ((0 : Nat) + j) f))
                      (2 : Nat) ∧
                    List.length
                          (AE.joinL
                            (strs
                              (fun j f =>
                                lend1
                                  (DC.get
                                    (appC
                                      (DBlk.c
                                        (blockOf (1 : Nat) [DV.v (Value.string { data := List.toArray (Lib.itoa t) })]))
                                      (1 : Nat)
                                      (subC
                                        (DBlk.c
                                          (blockOf (1 : Nat)
                                            [DV.v
                                                (Value.string
                                                  {
                                                    data :=
                                                      #[(104 : UInt8), (105 : UInt8), (100 : UInt8), (100 : UInt8),
                                                        (101 : UInt8), (110 : UInt8)] })]))
                                        (0 : Nat) (1 : Nat)))
                                    ((0 : Nat) + j) f))
                              (2 : Nat))
                            { data := #[(32 : UInt8)] }) ≤
                        (140737488355328 : Nat) ∧
                      (2 : Nat) ≤ (140737488355328 : Nat)) then
              k
                (DV.tup
                  [DV.v
                      (Value.string
                        (joinS
                          (strs
                            (fun j f =>
                              lend1
                                (DC.get
                                  (appC
                                    (DBlk.c (blockOf (1 : Nat) [DV.v (Value.string { data := List.toArray (Lib.itoa t) })]))
                                    (1 : Nat)
                                    (subC
                                      (DBlk.c
                                        (blockOf (1 : Nat)
                                          [DV.v
                                              (Value.string
                                                {
                                                  data :=
                                                    #[(104 : UInt8), (105 : UInt8), (100 : UInt8), (100 : UInt8),
                                                      (101 : UInt8), (110 : UInt8)] })]))
                                      (0 : Nat) (1 : Nat)))
                                  ((0 : Nat) + j) f))
                            (2 : Nat))
                          { data := #[(32 : UInt8)] })),
                    DV.v (Value.int IntKind.i64 (0 : Int))])
            else none
          else none
        else k (DV.tup [DV.v (Value.string { data := #[] }), DV.v (Value.int IntKind.i64 (1 : Int))]) := by
  kernel_rfl
theorem enc3_tree (t : Int) (s : ByteArray) (k : DV → Option Unit) : bodyD Tryz.prog (env encL (lpOf [(125930, hexI.g)]) 0) Tryz.f12 [.agg [iv 3, iv t, .v (.slice none 0 0), sv s, iv 0, bv false, bv false, iv 0, bv false, iv 0]] [] (fun d _ => k d) =
    bif decide (t < (0 : Int)) then k (DV.tup [DV.v (Value.string { data := #[] }), DV.v (Value.int IntKind.i64 (2 : Int))])
    else
      bif decide (t > (1099511627776 : Int)) then
        k (DV.tup [DV.v (Value.string { data := #[] }), DV.v (Value.int IntKind.i64 (2 : Int))])
      else
        bif decide ((↑(ByteArray.size s) : Int) < (1 : Int)) then
          k (DV.tup [DV.v (Value.string { data := #[] }), DV.v (Value.int IntKind.i64 (1 : Int))])
        else
          bif decide ((↑(ByteArray.size s) : Int) > (16 : Int)) then
            k (DV.tup [DV.v (Value.string { data := #[] }), DV.v (Value.int IntKind.i64 (1 : Int))])
          else
            bif holds ((-9223372036854775808 : Int) ≤ t ∧ t ≤ (9223372036854775807 : Int)) then
              bif decide (ByteArray.size s ≤ (140737488355328 : Nat)) then
                bif
                    holds
                      (LInv.pre hexI { s := s, t := { data := List.toArray (Lib.itoa t) }, j := (0 : Nat) } ∧
                        ∃ ids,
                          WkP (3 : Nat) ids
                            [DV.os (1 : Nat) (0 : Nat) (1 : Nat), DV.v (Value.string { data := #[] }),
                              DV.os (2 : Nat) (0 : Nat) (ByteArray.size s),
                              DV.v (Value.int IntKind.i64 (↑(ByteArray.size s) : Int)),
                              DV.v (Value.int IntKind.i64 (0 : Int))]
                            [some
                                { k := (10 : Nat),
                                  c :=
                                    DC.lst
                                      [[DV.v (Value.int IntKind.i64 (3 : Int)), DV.v (Value.int IntKind.i64 t),
                                          DV.v (Value.slice none (0 : Nat) (0 : Nat)), DV.v (Value.string s),
                                          DV.v (Value.int IntKind.i64 (0 : Int)), DV.v (Value.bool false),
                                          DV.v (Value.bool false), DV.v (Value.int IntKind.i64 (0 : Int)),
                                          DV.v (Value.bool false), DV.v (Value.int IntKind.i64 (0 : Int))]] },
                              some
                                { k := (1 : Nat),
                                  c := DC.lst [[DV.v (Value.string { data := List.toArray (Lib.itoa t) })]] },
                              some
                                { k := (1 : Nat),
                                  c := DC.tab (ByteArray.size s) fun i x => DV.v (Value.int IntKind.u8 (byteAt s i)) }]
                            [DV.os (1 : Nat) (0 : Nat) (1 : Nat), DV.v (Value.string (hexS s (0 : Nat))),
                              DV.os (2 : Nat) (0 : Nat) (ByteArray.size s),
                              DV.v (Value.int IntKind.i64 (↑(ByteArray.size s) : Int)),
                              DV.v (Value.int IntKind.i64 (0 : Int))]
                            [none,
                              some
                                { k := (1 : Nat),
                                  c := DC.lst [[DV.v (Value.string { data := List.toArray (Lib.itoa t) })]] },
                              some
                                { k := (1 : Nat),
                                  c :=
                                    DC.tab (ByteArray.size s) fun i x => DV.v (Value.int IntKind.u8 (byteAt s i)) }]) then
                  bif
                      holds
                        (strsOk
                            (fun j f =>
                              lend1
                                (DC.get
                                  (appC (DBlk.c (oneB { data := List.toArray (Lib.itoa t) })) (1 : Nat)
                                    (subC
                                      (DBlk.c
                                        (blockOf (1 : Nat)
                                          [DV.v (Value.string { data := #[(107 : UInt8), (101 : UInt8), (121 : UInt8)] }),
                                            DV.v (Value.string (hexS s (ByteArray.size s)))]))
                                      (0 : Nat) (2 : Nat)))
                                  ((0 : Nat) + j) f))
                            (3 : Nat) ∧
                          List.length
                                (AE.joinL
                                  (strs
                                    (fun j f =>
                                      lend1
                                        (DC.get
                                          (appC (DBlk.c (oneB { data := List.toArray (Lib.itoa t) })) (1 : Nat)
                                            (subC
                                              (DBlk.c
                                                (blockOf (1 : Nat)
                                                  [DV.v
                                                      (Value.string
                                                        { data := #[(107 : UInt8), (101 : UInt8), (121 : UInt8)] }),
                                                    DV.v (Value.string (hexS s (ByteArray.size s)))]))
                                              (0 : Nat) (2 : Nat)))
                                          ((0 : Nat) + j) f))
                                    (3 : Nat))
                                  { data := #[(32 : UInt8)] }) ≤
                              (140737488355328 : Nat) ∧
                            (3 : Nat) ≤ (140737488355328 : Nat)) then
                    k
                      (DV.tup
                        [DV.v
                            (Value.string
                              (joinS
                                (strs
                                  (fun j f =>
                                    lend1
                                      (DC.get
                                        (appC (DBlk.c (oneB { data := List.toArray (Lib.itoa t) })) (1 : Nat)
                                          (subC
                                            (DBlk.c
                                              (blockOf (1 : Nat)
                                                [DV.v
                                                    (Value.string
                                                      { data := #[(107 : UInt8), (101 : UInt8), (121 : UInt8)] }),
                                                  DV.v (Value.string (hexS s (ByteArray.size s)))]))
                                            (0 : Nat) (2 : Nat)))
                                        ((0 : Nat) + j) f))
                                  (3 : Nat))
                                { data := #[(32 : UInt8)] })),
                          DV.v (Value.int IntKind.i64 (0 : Int))])
                  else none
                else none
              else none
            else none := by
  kernel_rfl

def itB (t : Int) : ByteArray := ⟨(Lib.itoa t).toArray⟩
def SP : ByteArray := ⟨#[32]⟩
def HID : ByteArray := ⟨#[104, 105, 100, 100, 101, 110]⟩
def KEY : ByteArray := ⟨#[107, 101, 121]⟩
def hidS (t : Int) : ByteArray := joinS [itB t, HID] SP
def keyS (t : Int) (s : ByteArray) : ByteArray := joinS [itB t, KEY, hexS s s.size] SP
noncomputable def encC : ConF := fun args k => match args with
  | [.agg [.v (.int .i64 q), .v (.int .i64 t), .v c, .v (.string s), .v (.int .i64 a1), .v (.bool a2), .v (.bool a3), .v (.int .i64 a4), .v (.bool a5), .v (.int .i64 a6)]] =>
    bif holds (c = .slice none 0 0 ∧ a1 = 0 ∧ a2 = false ∧ a3 = false ∧ a4 = 0 ∧ a5 = false ∧ a6 = 0 ∧ 0 ≤ t ∧ t ≤ 1099511627776 ∧ (q = 4 ∨ (q = 3 ∧ 1 ≤ s.size ∧ s.size ≤ 16))) then
      (bif decide (q = 4) then (bif s.toList == (⟨#[]⟩ : ByteArray).toList then k (fun _ => (.tup [sv (hidS t), iv 0], [])) else k (fun _ => (.tup [sv ⟨#[]⟩, iv 1], []))) else k (fun _ => (.tup [sv (keyS t s), iv 0], [])))
    else none
  | _ => none
theorem encL_ok : ∀ x ∈ encL, ConOk Tryz.prog stJ x.1 x.2 := by
  intro x hx
  simp only [encL, List.mem_cons, List.not_mem_nil, or_false] at hx
  rcases hx with rfl | rfl | rfl
  · exact chk_ok
  · exact itoaC_ok
  · exact joinC_ok
theorem itoa_len {t : Int} (h0 : 0 ≤ t) (h1 : t ≤ 1099511627776) : (Lib.itoa t).length ≤ 21 := Lib.itoa_length_le t (by omega) (by omega)
theorem tup_ok (s : ByteArray) (e : Int) : Clo (.tup [sv s, iv e]) ∧ Low (.tup [sv s, iv e]) := flR_clo rfl
theorem hexData (s : ByteArray) : (hexS s s.size).data.toList.length = 2 * s.size := hexS_size s s.size
theorem enc_ok : ConOk Tryz.prog stJ 12 encC := by
  refine con_flat (mg := []) (l := encL) (lp := lpOf [(125930, hexI.g)]) (n := 0) (glOk stJ) encL_ok Tryz.func12 (by kernel_rfl) (by kernel_rfl) (ext_none fun _ _ _ => rfl)
    (lp_one (show pieces Tryz.f12 125930 = [.loop (loopAt Tryz.f12 125930)] by kernel_rfl) hex_ls) fun args k hk => ?_
  unfold encC at hk
  split at hk <;> first | (cases hk; done) | skip
  rename_i q t c s a1 a2 a3 a4 a5 a6
  obtain ⟨hb, hk2⟩ := bif_none hk
  clear hk
  obtain ⟨rfl, rfl, rfl, rfl, rfl, rfl, rfl, h0, h1, hq⟩ := holds_eq.1 hb
  have hlen := itoa_len h0 h1
  rcases dec_some hk2 with ⟨rfl, hk⟩ | ⟨hne, hk⟩
  · rcases bif_some hk with ⟨hs, hk⟩ | ⟨hs, hk⟩
    · refine ⟨_, _, .self .nil, tup_ok (hidS t) 0, hk, (enc4_tree t s _).trans ?_⟩
      refine dF (by omega) (dF (by omega) (cT hs (hT (by omega) (hT ⟨?_, ?_, by decide⟩ (isD_of (by kernel_rfl))))))
      · intro i hi
        have : i = 0 ∨ i = 1 := by omega
        rcases this with rfl | rfl <;> (show _ = _; kernel_rfl)
      · refine Nat.le_trans (Nat.le_of_eq (show _ = (Lib.join [Lib.itoa t, HID.data.toList] SP.data.toList).length by kernel_rfl)) ?_
        rw [Lib.join_length]
        simp [Lib.lens, HID, SP]
        omega
    · refine ⟨_, _, .self .nil, tup_ok ⟨#[]⟩ 1, hk, (enc4_tree t s _).trans ?_⟩
      exact dF (by omega) (dF (by omega) (cF hs (isD_of rfl)))
  · obtain ⟨rfl, g1, g2⟩ := hq.resolve_left hne
    refine ⟨_, _, .self .nil, tup_ok (keyS t s) 0, hk, (enc3_tree t s _).trans ?_⟩
    refine dF (by omega) (dF (by omega) (dF (by omega) (dF (by omega) (hT (by omega) (dT (by omega) (hT ⟨⟨Nat.zero_le _, show s.size ≤ 1000 by omega⟩, [], ?_⟩ (hT ⟨?_, ?_, by decide⟩ (isD_of (by kernel_rfl)))))))))
    · exact .of (im := [some 1, some 2]) (.cons (.os rfl) (.cons (.v _) (.cons (.os rfl) (.cons (.v _) (.cons (.v _) .nil))))) rfl ⟨⟨1, _, rfl, rfl, sub_one⟩, ⟨2, _, rfl, rfl, sub_bytes⟩, trivial⟩ rfl (by decide)
    · intro i hi
      have : i = 0 ∨ i = 1 ∨ i = 2 := by omega
      rcases this with rfl | rfl | rfl <;> (show _ = _; kernel_rfl)
    · refine Nat.le_trans (Nat.le_of_eq (show _ = (Lib.join [Lib.itoa t, KEY.data.toList, (hexS s s.size).data.toList] SP.data.toList).length by kernel_rfl)) ?_
      rw [Lib.join_length]
      have := hexS_size s s.size
      simp [Lib.lens, KEY, SP]
      omega
end Go.Proofs.YtiphckeipbfbmaaGreatDoor
